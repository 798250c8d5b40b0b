/-
  Types: what the functions do, one behind the other. No condition.
-/
import Derived.Test.YtboejpobmpfifaaGreatDoorLRds
/-
  Names: the program's. No condition.
-/
namespace Go.Proofs.YtboejpobmpfifaaGreatDoor.Eng
open Go
set_option linter.unusedSimpArgs false
set_option linter.unusedVariables false

attribute [local simp] evC_condT evC_condF evC_reg evC_regD evR_cons evR_nil runR_some regK_some evC_ret evC_skip evC_exit Out_seq Out_blk Out_some seqQ_norm seqQ_ret seqQ_exit blkQ_norm blkQ_ret blkQ_exit loopQ_norm loopQ_ret loopQ_exit
attribute [local simp] stepR evOp put upd_apply X.ev initEnv cells_agg cells_int cells_str cells_bool cells_sl cells_ptr cells_pnil cells_fn cells_map takeN evBin isSh intBin strBin callK resOf packR V.plain plainL V.und undL scK kill dstsO dstsL dstsR ite_some ite_pair ite_vbool evUn evLoad evLen V.real finLoop_false quietK_false kill_none
/-! ### Names -/
def chkN : Bool → List UInt8 → Bool
  | _, [] => true
  | f, c :: t => (isLet c || (!f && isDig c)) && chkN false t
def nameV (b : List UInt8) : Bool := chkN true b && decide (b ≠ [])
def letN (c : Nat) : Bool := (decide (97 ≤ c) && decide (c ≤ 122)) || (decide (65 ≤ c) && decide (c ≤ 90)) || decide (c = 95)
theorem letN_lo (c : UInt8) : letN c.toNat = isLet c := by
  have key : ∀ k : Fin 256, letN (UInt8.ofNat k.val).toNat = isLet (UInt8.ofNat k.val) := by decide +kernel
  have := key ⟨c.toNat, c.toNat_lt⟩
  simpa only [UInt8.ofNat_toNat] using this
theorem letN_hi {c : Nat} (h : 128 ≤ c) : letN c = false := by
  unfold letN
  rw [decide_eq_false (by omega : ¬ c ≤ 122), decide_eq_false (by omega : ¬ c ≤ 90), decide_eq_false (by omega : ¬ c = 95)]
  simp
theorem low_of_let {c : UInt8} (h : 128 ≤ c.toNat) : isLet c = false ∧ isDig c = false := by
  have key : ∀ k : Fin 256, 128 ≤ (UInt8.ofNat k.val).toNat → isLet (UInt8.ofNat k.val) = false ∧ isDig (UInt8.ofNat k.val) = false := by decide +kernel
  have := key ⟨c.toNat, c.toNat_lt⟩
  simp only [UInt8.ofNat_toNat] at this
  exact this h
theorem dig_iff (c : UInt8) : isDig c = (decide (48 ≤ c.toNat) && decide (c.toNat ≤ 57)) := by
  have key : ∀ k : Fin 256, isDig (UInt8.ofNat k.val) = (decide (48 ≤ (UInt8.ofNat k.val).toNat) && decide ((UInt8.ofNat k.val).toNat ≤ 57)) := by decide +kernel
  have := key ⟨c.toNat, c.toNat_lt⟩
  simpa only [UInt8.ofNat_toNat] using this

theorem tlet_spec (c : Nat) (s : St) : call G 200 [.int .i32 (c : Int)] s = some (.bool (letN c), s) := by
  refine call_out (F := af200) rfl rfl ?_
  have e1 : ((97 : Int) ≤ (c : Int)) = (97 ≤ c) := by rw [eq_iff_iff]; omega
  have e2 : ((c : Int) ≤ 122) = (c ≤ 122) := by rw [eq_iff_iff]; omega
  have e3 : ((65 : Int) ≤ (c : Int)) = (65 ≤ c) := by rw [eq_iff_iff]; omega
  have e4 : ((c : Int) ≤ 90) = (c ≤ 90) := by rw [eq_iff_iff]; omega
  have e5 : ((c : Int) = 95) = (c = 95) := by rw [eq_iff_iff]; omega
  by_cases h1 : 97 ≤ c
  · by_cases h2 : c ≤ 122
    · simp [af200, af200b, e1, e2, h1, h2]
      rw [fin_id _ (v := .bool _) rfl]
      simp [letN, h1, h2]
    · have h4 : ¬ c ≤ 90 := by omega
      have h3 : 65 ≤ c := by omega
      have h5 : ¬ c = 95 := by omega
      simp [af200, af200b, e1, e2, e3, e4, e5, h1, h2, h3, h4, h5]
      rw [fin_id _ (v := .bool _) rfl]
      simp [letN, h1, h2, h4, h5]
  · by_cases h3 : 65 ≤ c
    · by_cases h4 : c ≤ 90
      · simp [af200, af200b, e1, e2, e3, e4, e5, h1, h3, h4]
        rw [fin_id _ (v := .bool _) rfl]
        simp [letN, h1, h3, h4]
      · simp [af200, af200b, e1, e2, e3, e4, e5, h1, h3, h4]
        rw [fin_id _ (v := .bool _) rfl]
        simp [letN, h1, h3, h4]
    · have h5 : ¬ c = 95 := by omega
      simp [af200, af200b, e1, e2, e3, e4, e5, h1, h3, h5]
      rw [fin_id _ (v := .bool _) rfl]
      simp [letN, h1, h3, h5]

/-- What a walk over a text's characters leaves. -/
def itS (s s' : St) (id : Nat) : Prop := s'.bufs = s.bufs ∧ ∃ o, s'.obs = s.obs.set id o
def nmT (b l : List UInt8) (s : St) (id : Nat) (ex : AExit) (env env' : Env) (s' : St) : Prop :=
  itS s s' id ∧ if chkN (decide (l.length = b.length)) l = true then ex = .exit 0 ∧ env' 0 = env 0 else ex = .ret ∧ env' 2 = .bool false

theorem nameLoop (b : List UInt8) (hb : b.length ≤ 1000000000) (id : Nat) : ∀ (n : Nat) (l : List UInt8) (env : Env) (s : St), l.length < n → l <:+ b → env 6 = .itr id → s.obs[id]? = some (.iter b (b.length - l.length)) →
    Out (evC G (.loop false af123l0) env s) (fun ex env' s' => nmT b l s id ex env env' s') := by
  intro n
  induction n with
  | zero => intro l env s h; omega
  | succ n ih =>
    intro l env s hn hl h6 hs
    have hlen := suf_len hl
    have hid := lt_of_get hs
    refine Out_loop G false _ _ af123l0.eq_1 _ _ _ ?_
    cases l with
    | nil =>
      have hT : ∀ env', env' 0 = env 0 → nmT b [] s id (.exit 0) env env' s := fun env' h => ⟨⟨rfl, _, (List.set_getElem_self hid).symm⟩, by rw [if_pos (by rfl)]; exact ⟨rfl, h⟩⟩
      generalize nmT b [] s id = T at *
      have hx := nxt_end b _ id s hs (by simp)
      simp [h6, hx]
      exact hT _ (by simp)
    | cons c t =>
      simp only [List.length_cons] at hlen hn hs
      have hlt : b.length - (t.length + 1) < b.length := by omega
      have hx := nxt_at b _ id s hs hlt
      have hds := decV_suf hl (by simp)
      simp only [List.length_cons] at hds
      have hds' : Utf8.decode ⟨b.toArray⟩ (b.length - (t.length + 1)) = decV (c :: t) 0 := hds
      rw [hds'] at hx
      have hfst : (((b.length - (t.length + 1) : Nat) : Int) = 0) = (t.length + 1 = b.length) := by rw [eq_iff_iff]; omega
      have hfst' : (b.length - (t.length + 1) = 0) = (t.length + 1 = b.length) := by rw [eq_iff_iff]; omega
      have hchk : chkN (decide ((c :: t).length = b.length)) (c :: t) = ((isLet c || (!decide (t.length + 1 = b.length) && isDig c)) && chkN false t) := rfl
      have hend : ∀ (env' : Env) (o : AObj), ((isLet c || (!decide (t.length + 1 = b.length) && isDig c)) && chkN false t) = false → env' 2 = .bool false → nmT b (c :: t) s id .ret env env' ⟨s.obs.set id o, s.bufs⟩ := by
        intro env' o h h2
        unfold nmT
        rw [hchk, h]
        exact ⟨⟨rfl, o, rfl⟩, by rw [if_neg (by decide)]; exact ⟨rfl, h2⟩⟩
      by_cases hc : c.toNat < 128
      · rw [decV_lo hc] at hx
        have hgo : ∀ (env1 : Env), (isLet c || (!decide (t.length + 1 = b.length) && isDig c)) = true → env1 0 = env 0 → env1 6 = .itr id →
            Out (evC G (.loop false af123l0) env1 ⟨s.obs.set id (.iter b (b.length - (t.length + 1) + 1)), s.bufs⟩) (fun ex env' s' => nmT b (c :: t) s id ex env env' s') := by
          intro env1 hk h01 h61
          refine Out.mono (ih t env1 _ (by omega) (suf_tail hl) h61 (by simp [hid]; omega)) ?_
          rintro ex env' s' ⟨⟨g1, o, g2⟩, g3⟩
          refine ⟨⟨g1, o, ?_⟩, ?_⟩
          · rw [g2]; simp
          · rw [hchk, hk, Bool.true_and]
            have : decide (t.length = b.length) = false := decide_eq_false (by omega)
            rw [this] at g3
            rw [h01] at g3
            exact g3
        have hL := tlet_spec c.toNat
        rw [letN_lo] at hL
        have e48 : ((c.toNat : Int) < 48) = ¬ (48 ≤ c.toNat) := by rw [eq_iff_iff]; omega
        have e57 : ((57 : Int) < (c.toNat : Int)) = ¬ (c.toNat ≤ 57) := by rw [eq_iff_iff]; omega
        have hdg := dig_iff c
        by_cases h1 : isLet c = true
        · have hk : (isLet c || (!decide (t.length + 1 = b.length) && isDig c)) = true := by rw [h1]; rfl
          have hgo1 := fun e => hgo e hk
          generalize nmT b (c :: t) s id = T at *
          simp [h6, hx, hL, h1]
          exact hgo1 _ (by simp) (by simp [h6])
        · have h1' : isLet c = false := by simpa using h1
          by_cases hf : t.length + 1 = b.length
          · have hz := fun e o => hend e o (by rw [h1', decide_eq_true hf]; rfl)
            generalize nmT b (c :: t) s id = T at *
            simp [h6, hx, hL, h1', hfst, hfst', hf]
            exact hz _ _ (by simp)
          · by_cases h48 : 48 ≤ c.toNat
            · by_cases h57 : c.toNat ≤ 57
              · have hk : (isLet c || (!decide (t.length + 1 = b.length) && isDig c)) = true := by
                  rw [hdg, decide_eq_true h48, decide_eq_true h57, decide_eq_false hf, h1']; rfl
                have hgo1 := fun e => hgo e hk
                generalize nmT b (c :: t) s id = T at *
                simp [h6, hx, hL, h1', hfst, hfst', hf, e48, e57, h48, h57]
                exact hgo1 _ (by simp) (by simp [h6])
              · have hz := fun e o => hend e o (by rw [hdg, decide_eq_false h57, h1']; simp)
                generalize nmT b (c :: t) s id = T at *
                simp [h6, hx, hL, h1', hfst, hfst', hf, e48, e57, h48, h57]
                exact hz _ _ (by simp)
            · have hz := fun e o => hend e o (by rw [hdg, decide_eq_false h48, h1']; simp)
              generalize nmT b (c :: t) s id = T at *
              simp [h6, hx, hL, h1', hfst, hfst', hf, e48, e57, h48]
              exact hz _ _ (by simp)
      · have hhi := decV_hi (c := c) (t := t) (by omega)
        obtain ⟨q1, q2⟩ := low_of_let (c := c) (by omega)
        have hz := fun e o => hend e o (by rw [q1, q2]; simp)
        generalize decV (c :: t) 0 = D at *
        have hL := tlet_spec D.1
        rw [letN_hi hhi] at hL
        have e48 : ¬ (D.1 : Int) < 48 := by omega
        have e57 : (57 : Int) < (D.1 : Int) := by omega
        generalize nmT b (c :: t) s id = T at *
        by_cases hf : t.length + 1 = b.length
        · simp [h6, hx, hL, hfst, hfst', hf]
          exact hz _ _ (by simp)
        · simp [h6, hx, hL, hfst, hfst', hf, e48, e57]
          exact hz _ _ (by simp)

theorem tname_spec (b : List UInt8) (hb : b.length ≤ 1000000000) (s : St) : call G 123 [.str b] s = some (.bool (nameV b), s) := by
  refine call_out (F := af123) rfl rfl ?_
  simp [af123, af123b]
  refine Out.mono (nameLoop b hb s.obs.length (b.length + 1) b _ _ (by omega) (List.suffix_refl _) (by simp) (by simp)) ?_
  rintro ex env' s' ⟨⟨g1, o, g2⟩, g3⟩
  have hs' : s' = ⟨s.obs ++ [o], s.bufs⟩ := by
    obtain ⟨so, sb⟩ := s'
    simp only at g1 g2
    subst g1
    rw [g2]
    simp
  subst hs'
  rw [decide_eq_true rfl] at g3
  by_cases h : chkN true b = true
  · rw [if_pos h] at g3
    obtain ⟨rfl, k0⟩ := g3
    simp at k0
    simp [k0]
    rw [fin_s0 _ _ _ (by rfl)]
    simp [nameV, h]
  · rw [if_neg h] at g3
    obtain ⟨rfl, k2⟩ := g3
    simp [k2]
    rw [fin_s0 _ _ _ (by rfl)]
    simp [nameV, h]

end Go.Proofs.YtboejpobmpfifaaGreatDoor.Eng

/-
  Names, the reference's; right types, the program's. No condition.
-/
namespace Go.Proofs.YtboejpobmpfifaaGreatDoor.Eng
open Go
set_option linter.unusedSimpArgs false
set_option linter.unusedVariables false

attribute [local simp] evC_condT evC_condF evC_reg evC_regD evR_cons evR_nil runR_some regK_some evC_ret evC_skip evC_exit Out_seq Out_blk Out_some seqQ_norm seqQ_ret seqQ_exit blkQ_norm blkQ_ret blkQ_exit loopQ_norm loopQ_ret loopQ_exit
attribute [local simp] stepR evOp put upd_apply X.ev initEnv cells_agg cells_int cells_str cells_bool cells_sl cells_ptr cells_pnil cells_fn cells_map takeN evBin isSh intBin strBin callK resOf packR V.plain plainL V.und undL scK kill dstsO dstsL dstsR ite_some ite_pair ite_vbool evUn evLoad evLen V.real finLoop_false quietK_false kill_none
/-! ### The reference's names -/
def rnT (b l : List UInt8) (s : St) (ex : AExit) (env env' : Env) (s' : St) : Prop :=
  s' = s ∧ if chkN (decide (l.length = b.length)) l = true then ex = .exit 0 ∧ env' 0 = env 0 else ex = .ret ∧ env' 2 = .bool false
theorem rnameLoop (b : List UInt8) (hb : b.length ≤ 1000000000) (s : St) : ∀ (n : Nat) (l : List UInt8) (env : Env), l.length < n → l <:+ b → env 0 = .str b → env 3 = .int .i64 ((b.length - l.length : Nat) : Int) →
    Out (evC G (.loop false af122l0) env s) (fun ex env' s' => rnT b l s ex env env' s') := by
  intro n
  induction n with
  | zero => intro l env h; omega
  | succ n ih =>
    intro l env hn hl h0 h3
    have hlen := suf_len hl
    refine Out_loop G false _ _ af122l0.eq_1 _ _ _ ?_
    cases l with
    | nil =>
      have hT : ∀ env', env' 0 = env 0 → rnT b [] s (.exit 0) env env' s := fun env' h => ⟨rfl, by rw [if_pos (by rfl)]; exact ⟨rfl, h⟩⟩
      generalize rnT b [] s = T at *
      simp [h0, h3]
      exact hT _ (by simp [h0])
    | cons c t =>
      simp only [List.length_cons] at hlen hn h3
      have hlt : b.length - (t.length + 1) < b.length := by omega
      have hlt' : ((b.length - (t.length + 1) : Nat) : Int) < (b.length : Int) := by omega
      have hgi := at_get hl
      have hfst : (((b.length - (t.length + 1) : Nat) : Int) = 0) = (t.length + 1 = b.length) := by rw [eq_iff_iff]; omega
      have hfst' : (b.length - (t.length + 1) = 0) = (t.length + 1 = b.length) := by rw [eq_iff_iff]; omega
      have hw : IntKind.i64.wrap (((b.length - (t.length + 1) : Nat) : Int) + 1) = ((b.length - t.length : Nat) : Int) := by rw [wrap_in (by omega) (by omega)]; omega
      have hchk : chkN (decide ((c :: t).length = b.length)) (c :: t) = ((isLet c || (!decide (t.length + 1 = b.length) && isDig c)) && chkN false t) := rfl
      have hend : ∀ (env' : Env), ((isLet c || (!decide (t.length + 1 = b.length) && isDig c)) && chkN false t) = false → env' 2 = .bool false → rnT b (c :: t) s .ret env env' s := by
        intro env' h h2
        unfold rnT
        rw [hchk, h]
        exact ⟨rfl, by rw [if_neg (by decide)]; exact ⟨rfl, h2⟩⟩
      have hgo : ∀ (env1 : Env), (isLet c || (!decide (t.length + 1 = b.length) && isDig c)) = true → env1 0 = env 0 → env1 3 = .int .i64 ((b.length - t.length : Nat) : Int) →
          Out (evC G (.loop false af122l0) env1 s) (fun ex env' s' => rnT b (c :: t) s ex env env' s') := by
        intro env1 hk h01 h31
        refine Out.mono (ih t env1 (by omega) (suf_tail hl) (by rw [h01]; exact h0) h31) ?_
        rintro ex env' s' ⟨g1, g3⟩
        refine ⟨g1, ?_⟩
        rw [hchk, hk, Bool.true_and]
        have : decide (t.length = b.length) = false := decide_eq_false (by omega)
        rw [this, h01] at g3
        exact g3
      have hL := rletter_spec c
      have hD := rdigit_spec c
      by_cases h1 : isLet c = true
      · have hk : (isLet c || (!decide (t.length + 1 = b.length) && isDig c)) = true := by rw [h1]; rfl
        have hgo1 := fun e => hgo e hk
        generalize rnT b (c :: t) s = T at *
        simp [h0, h3, hlt, hlt', ↓hgi, hL, h1, hw]
        exact hgo1 _ (by simp [h0]) (by simp)
      · have h1' : isLet c = false := by simpa using h1
        by_cases hf : t.length + 1 = b.length
        · have pos0 : b.length - (t.length + 1) = 0 := by omega
          rw [pos0] at h3 hgi
          have hgi0 : b[(0 : Int).toNat]? = some c := hgi
          have h30 : env 3 = .int .i64 0 := h3
          have hpos : 0 < b.length := by omega
          have hpos' : (0 : Int) < (b.length : Int) := by omega
          have hz := fun e => hend e (by rw [h1', decide_eq_true hf]; rfl)
          generalize rnT b (c :: t) s = T at *
          simp [h0, h30, hpos, hpos', ↓hgi0, hL, h1']
          exact hz _ (by simp)
        · have z1 : (((b.length - (t.length + 1) : Nat) : Int) = 0) = False := eq_false (by omega)
          have z2 : (b.length - (t.length + 1) = 0) = False := eq_false (by omega)
          have z3 : (b.length ≤ t.length + 1) = False := eq_false (by omega)
          by_cases hd : isDig c = true
          · have hk : (isLet c || (!decide (t.length + 1 = b.length) && isDig c)) = true := by
              rw [hd, decide_eq_false hf, h1']; rfl
            have hgo1 := fun e => hgo e hk
            generalize rnT b (c :: t) s = T at *
            simp [h0, h3, hlt, hlt', ↓hgi, hL, hD, h1', hd, z1, z2, z3, hw]
            exact hgo1 _ (by simp [h0]) (by simp)
          · have hd' : isDig c = false := by simpa using hd
            have hz := fun e => hend e (by rw [hd', h1']; simp)
            generalize rnT b (c :: t) s = T at *
            simp [h0, h3, hlt, hlt', ↓hgi, hL, hD, h1', hd', z1, z2, z3]
            exact hz _ (by simp)

theorem rnameN_spec (b : List UInt8) (hb : b.length ≤ 1000000000) (s : St) : call G 122 [.str b] s = some (.bool (nameV b), s) := by
  refine call_out (F := af122) rfl rfl ?_
  simp [af122, af122b]
  refine Out.mono (rnameLoop b hb s (b.length + 1) b _ (by omega) (List.suffix_refl _) (by simp) (by simp)) ?_
  rintro ex env' s' ⟨rfl, g3⟩
  rw [decide_eq_true rfl] at g3
  by_cases h : chkN true b = true
  · rw [if_pos h] at g3
    obtain ⟨rfl, k0⟩ := g3
    simp at k0
    simp [k0]
    rw [fin_id _ (v := .bool _) rfl]
    cases b with
    | nil => rfl
    | cons c t =>
      have : (0 : Int) < ((c :: t).length : Int) := by simp only [List.length_cons]; omega
      simp [nameV, h]
  · rw [if_neg h] at g3
    obtain ⟨rfl, k2⟩ := g3
    simp [k2]
    rw [fin_id _ (v := .bool _) rfl]
    simp [nameV, h]

/-! ### Right types -/
/-- How many lists are in the wraps, if they are right. -/
def wrp : Bool → List UInt8 → Option Nat
  | _, [] => some 0
  | lb, c :: t => if c = 91 then (wrp false t).map (· + 1) else if c = 33 ∧ lb = false then wrp true t else none
def rightT (x w : List UInt8) : Bool := match wrp false w with | some n => decide (n ≤ 4) && nameV x | none => false

def wrT (lb : Bool) (l : List UInt8) (k : Int) (s : St) (id : Nat) (ex : AExit) (env env' : Env) (s' : St) : Prop :=
  itS s s' id ∧ match wrp lb l with
    | some n => ex = .exit 0 ∧ env' 1 = env 1 ∧ env' 3 = .int .i64 (k + n)
    | none => ex = .ret ∧ env' 2 = .bool false

theorem wrapLoop (b : List UInt8) (hb : b.length ≤ 1000000) (id : Nat) : ∀ (n : Nat) (l : List UInt8) (lb : Bool) (last : Int) (k : Nat) (env : Env) (s : St), l.length < n → l <:+ b → k + l.length ≤ 1000000 → (last = 33 ↔ lb = true) →
    env 9 = .itr id → env 3 = .int .i64 k → env 4 = .int .i32 last → s.obs[id]? = some (.iter b (b.length - l.length)) →
    Out (evC G (.loop false af47l0) env s) (fun ex env' s' => wrT lb l k s id ex env env' s') := by
  intro n
  induction n with
  | zero => intro l lb last k env s h; omega
  | succ n ih =>
    intro l lb last k env s hn hl hk hlast h9 h3 h4 hs
    have hlen := suf_len hl
    have hid := lt_of_get hs
    refine Out_loop G false _ _ af47l0.eq_1 _ _ _ ?_
    cases l with
    | nil =>
      have hT : ∀ env', env' 1 = env 1 → env' 3 = .int .i64 k → wrT lb [] k s id (.exit 0) env env' s := fun env' h h' => ⟨⟨rfl, _, (List.set_getElem_self hid).symm⟩, by simp only [wrp]; exact ⟨trivial, h, by simpa using h'⟩⟩
      generalize wrT lb [] k s id = T at *
      have hx := nxt_end b _ id s hs (by simp)
      simp [h9, hx]
      exact hT _ (by simp) (by simp [h3])
    | cons c t =>
      simp only [List.length_cons] at hlen hn hs hk
      have hlt : b.length - (t.length + 1) < b.length := by omega
      have hx := nxt_at b _ id s hs hlt
      have hds := decV_suf hl (by simp)
      simp only [List.length_cons] at hds
      have hds' : Utf8.decode ⟨b.toArray⟩ (b.length - (t.length + 1)) = decV (c :: t) 0 := hds
      rw [hds'] at hx
      have hend : ∀ (env' : Env) (o : AObj), wrp lb (c :: t) = none → env' 2 = .bool false → wrT lb (c :: t) k s id .ret env env' ⟨s.obs.set id o, s.bufs⟩ := by
        intro env' o h h2
        unfold wrT
        rw [h]
        exact ⟨⟨rfl, o, rfl⟩, rfl, h2⟩
      by_cases hc : c.toNat < 128
      · rw [decV_lo hc] at hx
        have hgo : ∀ (lb' : Bool) (last' : Int) (k' : Nat) (env1 : Env), k' + t.length ≤ 1000000 → (last' = 33 ↔ lb' = true) → (∀ m : Option Nat, wrp lb' t = m → wrp lb (c :: t) = m.map (· + (k' - k)) ∧ k ≤ k') → env1 1 = env 1 → env1 9 = .itr id → env1 3 = .int .i64 k' → env1 4 = .int .i32 last' →
            Out (evC G (.loop false af47l0) env1 ⟨s.obs.set id (.iter b (b.length - (t.length + 1) + 1)), s.bufs⟩) (fun ex env' s' => wrT lb (c :: t) k s id ex env env' s') := by
          intro lb' last' k' env1 hk' hl' hm h11 h91 h31 h41
          refine Out.mono (ih t lb' last' k' env1 _ (by omega) (suf_tail hl) hk' hl' h91 h31 h41 (by simp [hid]; omega)) ?_
          rintro ex env' s' ⟨⟨g1, o, g2⟩, g3⟩
          refine ⟨⟨g1, o, by rw [g2]; simp⟩, ?_⟩
          obtain ⟨hm1, hm2⟩ := hm _ rfl
          rw [hm1]
          cases hq : wrp lb' t with
          | none => rw [hq] at g3; exact g3
          | some m =>
            rw [hq] at g3
            obtain ⟨a1, a2, a3⟩ := g3
            refine ⟨a1, a2.trans h11, ?_⟩
            rw [a3]
            congr 1
            simp only
            omega
        have e91 : ((c.toNat : Int) = 91) ↔ c = 91 := u8eq c 91 (by decide)
        have e33 : ((c.toNat : Int) = 33) ↔ c = 33 := u8eq c 33 (by decide)
        by_cases h91 : c = 91
        · have hw : IntKind.i64.wrap ((k : Int) + 1) = (k : Int) + 1 := wrap_in (by omega) (by omega)
          have hgo1 := fun env1 => hgo false 91 (k + 1) env1 (by omega) (by decide) (fun m hm => ⟨by rw [wrp, if_pos h91, hm]; congr 1; funext x; omega, by omega⟩)
          have h91t : (c = 91) = True := eq_true h91
          have hcn : (c.toNat : Int) = 91 := e91.2 h91
          generalize wrT lb (c :: t) k s id = T at *
          simp [h9, h3, hx, hcn, hw]
          exact hgo1 _ (by simp) (by simp [h9]) (by simp) (by simp)
        · have h91f : ((c.toNat : Int) = 91) = False := eq_false fun h => h91 (e91.1 h)
          by_cases h33 : c = 33
          · have hcn : (c.toNat : Int) = 33 := e33.2 h33
            cases lb with
            | true =>
              have hl33 : last = 33 := hlast.2 rfl
              have hz := fun e o => hend e o (by rw [wrp, if_neg h91, if_neg (by simp)])
              generalize wrT true (c :: t) k s id = T at *
              simp [h9, h3, h4, hx, hcn, hl33]
              exact hz _ _ (by simp)
            | false =>
              have hl33 : ¬ last = 33 := fun h => absurd (hlast.1 h) (by decide)
              have hgo1 := fun env1 => hgo true 33 k env1 (by omega) (by decide) (fun m hm => ⟨by rw [wrp, if_neg h91, if_pos ⟨h33, rfl⟩, hm]; simp, by omega⟩)
              generalize wrT false (c :: t) k s id = T at *
              simp [h9, h3, h4, hx, hcn, hl33]
              exact hgo1 _ (by simp) (by simp [h9]) (by simp [h3]) (by simp)
          · have h33f : ((c.toNat : Int) = 33) = False := eq_false fun h => h33 (e33.1 h)
            have hz := fun e o => hend e o (by rw [wrp, if_neg h91, if_neg (fun h => h33 h.1)])
            generalize wrT lb (c :: t) k s id = T at *
            simp [h9, h3, h4, hx, h91f, h33f]
            exact hz _ _ (by simp)
      · have hhi := decV_hi (c := c) (t := t) (by omega)
        have h91 : ¬ c = 91 := fun h => hc (by rw [h]; decide)
        have h33 : ¬ c = 33 := fun h => hc (by rw [h]; decide)
        have hz := fun e o => hend e o (by rw [wrp, if_neg h91, if_neg (fun h => h33 h.1)])
        generalize decV (c :: t) 0 = D at *
        have d91 : ¬ (D.1 : Int) = 91 := by omega
        have d33 : ¬ (D.1 : Int) = 33 := by omega
        have d91' : ¬ D.1 = 91 := by omega
        have d33' : ¬ D.1 = 33 := by omega
        generalize wrT lb (c :: t) k s id = T at *
        simp [h9, h3, h4, hx, d91, d33, d91', d33']
        exact hz _ _ (by simp)

theorem rightT_spec (x w : List UInt8) (hx : x.length ≤ 1000000) (hw : w.length ≤ 1000000) (s : St) : call G 47 [tyV x w] s = some (.bool (rightT x w), s) := by
  have hnm := tname_spec x (by omega)
  refine call_out (F := af47) rfl rfl ?_
  simp [af47, af47b, tyV]
  refine Out.mono (wrapLoop w hw (s.obs.length + 1) (w.length + 1) w false 0 0 _ _ (by omega) (List.suffix_refl _) (by omega) (by decide) (by simp) (by simp) (by simp) (by simp)) ?_
  rintro ex env' s' ⟨⟨g1, o, g2⟩, g3⟩
  have hs' : s' = ⟨s.obs ++ [.cells 90 [.str x, .str w], o], s.bufs⟩ := by
    obtain ⟨so, sb⟩ := s'
    simp only at g1 g2
    subst g1
    rw [g2]
    simp
  subst hs'
  cases hq : wrp false w with
  | none =>
    rw [hq] at g3
    obtain ⟨rfl, k2⟩ := g3
    simp [k2]
    rw [fin_s0 _ _ _ (by rfl)]
    simp [rightT, hq]
  | some n =>
    rw [hq] at g3
    obtain ⟨rfl, k1, k3⟩ := g3
    simp at k1 k3
    by_cases h4 : n ≤ 4
    · have h4' : (n : Int) ≤ 4 := by omega
      simp [k1, k3, h4, h4', hnm]
      rw [fin_s0 _ _ _ (by rfl)]
      simp [rightT, hq, h4]
    · have h4' : ¬ (n : Int) ≤ 4 := by omega
      simp [k1, k3, h4, h4']
      rw [fin_s0 _ _ _ (by rfl)]
      simp [rightT, hq, h4]

end Go.Proofs.YtboejpobmpfifaaGreatDoor.Eng

/-
  Right types, the reference's; types, written. No condition.
-/
namespace Go.Proofs.YtboejpobmpfifaaGreatDoor.Eng
open Go
set_option linter.unusedSimpArgs false
set_option linter.unusedVariables false

attribute [local simp] evC_condT evC_condF evC_reg evC_regD evR_cons evR_nil runR_some regK_some evC_ret evC_skip evC_exit Out_seq Out_blk Out_some seqQ_norm seqQ_ret seqQ_exit blkQ_norm blkQ_ret blkQ_exit loopQ_norm loopQ_ret loopQ_exit
attribute [local simp] stepR evOp put upd_apply X.ev initEnv cells_agg cells_int cells_str cells_bool cells_sl cells_ptr cells_pnil cells_fn cells_map takeN evBin isSh intBin strBin callK resOf packR V.plain plainL V.und undL scK kill dstsO dstsL dstsR ite_some ite_pair ite_vbool evUn evLoad evLen V.real finLoop_false quietK_false kill_none
/-! ### Right types, the reference's -/
def wsT (lb : Bool) (l : List UInt8) (k : Int) (s : St) (ex : AExit) (env env' : Env) (s' : St) : Prop :=
  s' = s ∧ match wrp lb l with
    | some n => ex = .exit 0 ∧ env' 1 = env 1 ∧ env' 3 = .int .i64 (k + n)
    | none => ex = .ret ∧ env' 2 = .bool false
theorem rwrapLoop (x b : List UInt8) (hb : b.length ≤ 1000000) (id : Nat) (s : St) (hs : s.obs[id]? = some (.cells 90 [.str x, .str b])) : ∀ (n : Nat) (l : List UInt8) (lb : Bool) (k : Nat) (env : Env), l.length < n → l <:+ b → k + l.length ≤ 1000000 →
    (lb = true ↔ ∃ p, b.length - l.length = p + 1 ∧ b[p]? = some 33) → env 1 = .ptr id 0 → env 3 = .int .i64 k → env 4 = .int .i64 ((b.length - l.length : Nat) : Int) →
    Out (evC G (.loop false af45l0) env s) (fun ex env' s' => wsT lb l k s ex env env' s') := by
  intro n
  induction n with
  | zero => intro l lb k env h; omega
  | succ n ih =>
    intro l lb k env hn hl hk hlb h1 h3 h4
    have hlen := suf_len hl
    refine Out_loop G false _ _ af45l0.eq_1 _ _ _ ?_
    cases l with
    | nil =>
      have hT : ∀ env', env' 1 = env 1 → env' 3 = .int .i64 k → wsT lb [] k s (.exit 0) env env' s := fun env' h h' => ⟨rfl, by simp only [wrp]; exact ⟨trivial, h, by simpa using h'⟩⟩
      generalize wsT lb [] k s = T at *
      simp [h1, h4, hs]
      exact hT _ (by simp [h1]) (by simp [h3])
    | cons c t =>
      simp only [List.length_cons] at hlen hn hk h4 hlb
      have hgi := at_get hl
      have hnext : b.length - t.length = (b.length - (t.length + 1)) + 1 := by omega
      have hpc : b[b.length - (t.length + 1)]? = some c := by simpa using hgi
      have hend : ∀ (env' : Env), wrp lb (c :: t) = none → env' 2 = .bool false → wsT lb (c :: t) k s .ret env env' s := by
        intro env' h h2
        unfold wsT
        rw [h]
        exact ⟨rfl, rfl, h2⟩
      have hgo : ∀ (lb' : Bool) (k' : Nat) (env1 : Env), k' + t.length ≤ 1000000 → (lb' = true ↔ c = 33) → (∀ m : Option Nat, wrp lb' t = m → wrp lb (c :: t) = m.map (· + (k' - k)) ∧ k ≤ k') → env1 1 = env 1 → env1 3 = .int .i64 k' → env1 4 = .int .i64 ((b.length - t.length : Nat) : Int) →
          Out (evC G (.loop false af45l0) env1 s) (fun ex env' s' => wsT lb (c :: t) k s ex env env' s') := by
        intro lb' k' env1 hk' hl' hm h11 h31 h41
        refine Out.mono (ih t lb' k' env1 (by omega) (suf_tail hl) hk' ?_ (by rw [h11]; exact h1) h31 h41) ?_
        · rw [hl']
          constructor
          · rintro rfl; exact ⟨_, hnext, hpc⟩
          · rintro ⟨p, hp, hg⟩
            have : p = b.length - (t.length + 1) := by omega
            subst this
            rw [hpc] at hg
            exact Option.some.inj hg
        rintro ex env' s' ⟨g1, g3⟩
        refine ⟨g1, ?_⟩
        obtain ⟨hm1, hm2⟩ := hm _ rfl
        rw [hm1]
        cases hq : wrp lb' t with
        | none => rw [hq] at g3; exact g3
        | some m =>
          rw [hq] at g3
          obtain ⟨a1, a2, a3⟩ := g3
          refine ⟨a1, a2.trans h11, ?_⟩
          rw [a3]
          congr 1
          simp only
          omega
      have e91 : ((c.toNat : Int) = 91) ↔ c = 91 := u8eq c 91 (by decide)
      have e33 : ((c.toNat : Int) = 33) ↔ c = 33 := u8eq c 33 (by decide)
      have hlt : b.length - (t.length + 1) < b.length := by omega
      have hlt' : ((b.length - (t.length + 1) : Nat) : Int) < (b.length : Int) := by omega
      have hw : IntKind.i64.wrap (((b.length - (t.length + 1) : Nat) : Int) + 1) = ((b.length - t.length : Nat) : Int) := by rw [wrap_in (by omega) (by omega)]; omega
      have hwk : IntKind.i64.wrap ((k : Int) + 1) = (k : Int) + 1 := wrap_in (by omega) (by omega)
      by_cases h91 : c = 91
      · have hcn : (c.toNat : Int) = 91 := e91.2 h91
        have hgo1 := fun env1 => hgo false (k + 1) env1 (by omega) (by rw [h91]; decide) (fun m hm => ⟨by rw [wrp, if_pos h91, hm]; congr 1; funext x; omega, by omega⟩)
        generalize wsT lb (c :: t) k s = T at *
        simp [h1, h3, h4, hs, hlt, hlt', ↓hgi, hcn, hw, hwk]
        exact hgo1 _ (by simp [h1]) (by simp) (by simp)
      · have h91f : ((c.toNat : Int) = 91) = False := eq_false fun h => h91 (e91.1 h)
        by_cases h33 : c = 33
        · have hcn : (c.toNat : Int) = 33 := e33.2 h33
          by_cases hp0 : b.length - (t.length + 1) = 0
          · have hlbf : lb = false := by
              cases hq : lb with
              | false => rfl
              | true =>
                obtain ⟨p, hp, _⟩ := hlb.1 hq
                omega
            subst hlbf
            rw [hp0] at h4 hgi hw
            have hgi0 : b[(0 : Int).toNat]? = some c := hgi
            have h40 : env 4 = .int .i64 0 := h4
            have hpos : 0 < b.length := by omega
            have hpos' : (0 : Int) < (b.length : Int) := by omega
            have hw0 : IntKind.i64.wrap 1 = ((b.length - t.length : Nat) : Int) := by simpa using hw
            have hgo1 := fun env1 => hgo true k env1 (by omega) (by rw [h33]; decide) (fun m hm => ⟨by rw [wrp, if_neg h91, if_pos ⟨h33, rfl⟩, hm]; simp, by omega⟩)
            generalize wsT false (c :: t) k s = T at *
            simp [h1, h3, h40, hs, hpos, hpos', ↓hgi0, hcn, hw0]
            exact hgo1 _ (by simp [h1]) (by simp [h3]) (by simp)
          · obtain ⟨p, hp⟩ : ∃ p, b.length - (t.length + 1) = p + 1 := ⟨b.length - (t.length + 1) - 1, by omega⟩
            have hpl : p < b.length := by omega
            have hgp : b[((p : Nat) : Int).toNat]? = some b[p] := by rw [Int.toNat_natCast, List.getElem?_eq_getElem hpl]
            have hlb2 : lb = true ↔ b[p] = 33 := by
              rw [hlb]
              constructor
              · rintro ⟨p', h, hg⟩
                have : p' = p := by omega
                subst this
                rw [List.getElem?_eq_getElem hpl] at hg
                exact Option.some.inj hg
              · intro h
                exact ⟨p, hp, by rw [List.getElem?_eq_getElem hpl, h]⟩
            rw [hp] at h4 hgi hw hlt
            have hgi1 : b[((p : Int) + 1).toNat]? = some c := hgi
            have h41 : env 4 = .int .i64 ((p : Int) + 1) := h4
            have hw1 : IntKind.i64.wrap ((p : Int) + 1 + 1) = ((b.length - t.length : Nat) : Int) := by rw [← hw]; push_cast; rfl
            have hlt1' : (p : Int) + 1 < (b.length : Int) := by omega
            have hwp : IntKind.i64.wrap (p : Int) = (p : Int) := wrap_in (by omega) (by omega)
            have hpos : (0 : Int) < (p : Int) + 1 := by omega
            have hpos0 : (0 : Int) ≤ (p : Int) + 1 := by omega
            have ed : ((b[p].toNat : Int) = 33) ↔ b[p] = 33 := u8eq b[p] 33 (by decide)
            generalize b[p] = d at *
            by_cases hd : d = 33
            · have hdn : (d.toNat : Int) = 33 := ed.2 hd
              have hz := fun e => hend e (by rw [wrp, if_neg h91, if_neg (by rw [hlb2.2 hd]; simp)])
              generalize wsT lb (c :: t) k s = T at *
              simp [h1, h3, h41, hs, hlt, hlt1', ↓hgi1, hcn, hpos, hpos0, hwp, ↓hgp, hdn]
              exact hz _ (by simp)
            · have hdn : ((d.toNat : Int) = 33) = False := eq_false fun h => hd (ed.1 h)
              have hlbf : lb = false := by
                cases hq : lb with
                | false => rfl
                | true => exact absurd (hlb2.1 hq) hd
              subst hlbf
              have hgo1 := fun env1 => hgo true k env1 (by omega) (by rw [h33]; decide) (fun m hm => ⟨by rw [wrp, if_neg h91, if_pos ⟨h33, rfl⟩, hm]; simp, by omega⟩)
              generalize wsT false (c :: t) k s = T at *
              simp [h1, h3, h41, hs, hlt, hlt1', ↓hgi1, hcn, hpos, hpos0, hwp, ↓hgp, hdn, hw1]
              exact hgo1 _ (by simp [h1]) (by simp [h3]) (by simp)
        · have h33f : ((c.toNat : Int) = 33) = False := eq_false fun h => h33 (e33.1 h)
          have hz := fun e => hend e (by rw [wrp, if_neg h91, if_neg (fun h => h33 h.1)])
          generalize wsT lb (c :: t) k s = T at *
          simp [h1, h3, h4, hs, hlt, hlt', ↓hgi, h91f, h33f]
          exact hz _ (by simp)

theorem rrightT_spec (x w : List UInt8) (hx : x.length ≤ 1000000) (hw : w.length ≤ 1000000) (s : St) : call G 45 [tyV x w] s = some (.bool (rightT x w), s) := by
  have hnm := rnameN_spec x (by omega)
  refine call_out (F := af45) rfl rfl ?_
  simp [af45, af45b, tyV]
  refine Out.mono (rwrapLoop x w hw s.obs.length _ (by simp) (w.length + 1) w false 0 _ (by omega) (List.suffix_refl _) (by omega) ?_ (by simp) (by simp) (by simp)) ?_
  · constructor
    · intro h; cases h
    · rintro ⟨p, hp, _⟩; omega
  rintro ex env' s' ⟨rfl, g3⟩
  cases hq : wrp false w with
  | none =>
    rw [hq] at g3
    obtain ⟨rfl, k2⟩ := g3
    simp [k2]
    rw [fin_s0 _ _ _ (by rfl)]
    simp [rightT, hq]
  | some n =>
    rw [hq] at g3
    obtain ⟨rfl, k1, k3⟩ := g3
    simp at k1 k3
    by_cases h4 : n ≤ 4
    · have h4' : (n : Int) ≤ 4 := by omega
      simp [k1, k3, h4, h4', hnm]
      rw [fin_s0 _ _ _ (by rfl)]
      simp [rightT, hq, h4]
    · have h4' : ¬ (n : Int) ≤ 4 := by omega
      simp [k1, k3, h4, h4']
      rw [fin_s0 _ _ _ (by rfl)]
      simp [rightT, hq, h4]

/-! ### Types, written -/
def shW : List UInt8 → List UInt8 → List UInt8
  | acc, [] => acc
  | acc, c :: t => shW (if c = 91 then 91 :: (acc ++ [93]) else acc ++ [33]) t
theorem shW_len : ∀ (w acc : List UInt8), (shW acc w).length ≤ acc.length + 2 * w.length
  | [], acc => by simp [shW]
  | c :: t, acc => by
    have := shW_len t (if c = 91 then 91 :: (acc ++ [93]) else acc ++ [33])
    rw [shW]
    simp only [List.length_cons]
    split at this
    · rename_i h
      rw [if_pos h]
      simp only [List.length_cons, List.length_append, List.length_nil] at this
      omega
    · rename_i h
      rw [if_neg h]
      simp only [List.length_cons, List.length_append, List.length_nil] at this
      omega
theorem wrp_low : ∀ (l : List UInt8) (lb : Bool), wrp lb l ≠ none → ∀ c ∈ l, c = 91 ∨ c = 33
  | [], _, _, c, h => by cases h
  | d :: t, lb, hn, c, h => by
    rw [wrp] at hn
    by_cases h91 : d = 91
    · rw [if_pos h91] at hn
      rcases List.mem_cons.1 h with rfl | h
      · exact .inl h91
      · exact wrp_low t false (fun q => hn (by rw [q]; rfl)) c h
    · rw [if_neg h91] at hn
      by_cases h33 : d = 33 ∧ lb = false
      · rw [if_pos h33] at hn
        rcases List.mem_cons.1 h with rfl | h
        · exact .inr h33.1
        · exact wrp_low t true hn c h
      · rw [if_neg h33] at hn; exact absurd rfl hn

theorem showLoop (b : List UInt8) (hb : b.length ≤ 1000000) (id : Nat) : ∀ (n : Nat) (l acc : List UInt8) (env : Env) (s : St), l.length < n → l <:+ b → (∀ c ∈ l, c = 91 ∨ c = 33) → acc.length + 2 * l.length ≤ 10000000 →
    env 14 = .itr id → env 4 = .str acc → s.obs[id]? = some (.iter b (b.length - l.length)) →
    Out (evC G (.loop false af46l0) env s) (fun ex env' s' => itS s s' id ∧ ex = .exit 0 ∧ env' 4 = .str (shW acc l)) := by
  intro n
  induction n with
  | zero => intro l acc env s h; omega
  | succ n ih =>
    intro l acc env s hn hl hall hacc h14 h4 hs
    have hlen := suf_len hl
    have hid := lt_of_get hs
    refine Out_loop G false _ _ af46l0.eq_1 _ _ _ ?_
    cases l with
    | nil =>
      have hx := nxt_end b _ id s hs (by simp)
      simp [h14, hx]
      exact ⟨⟨rfl, _, (List.set_getElem_self hid).symm⟩, by simp [h4, shW]⟩
    | cons c t =>
      simp only [List.length_cons] at hlen hn hs hacc
      have hlt : b.length - (t.length + 1) < b.length := by omega
      have hx := nxt_at b _ id s hs hlt
      have hds := decV_suf hl (by simp)
      simp only [List.length_cons] at hds
      have hds' : Utf8.decode ⟨b.toArray⟩ (b.length - (t.length + 1)) = decV (c :: t) 0 := hds
      have hcc := hall c (by simp)
      have hc : c.toNat < 128 := by rcases hcc with rfl | rfl <;> decide
      rw [hds', decV_lo hc] at hx
      have e64 : i64max = 9223372036854775807 := rfl
      have hgo : ∀ (acc' : List UInt8) (env1 : Env), acc'.length + 2 * t.length ≤ 10000000 → shW acc' t = shW acc (c :: t) → env1 14 = .itr id → env1 4 = .str acc' →
          Out (evC G (.loop false af46l0) env1 ⟨s.obs.set id (.iter b (b.length - (t.length + 1) + 1)), s.bufs⟩) (fun ex env' s' => itS s s' id ∧ ex = .exit 0 ∧ env' 4 = .str (shW acc (c :: t))) := by
        intro acc' env1 ha hsh h141 h41
        refine Out.mono (ih t acc' env1 _ (by omega) (suf_tail hl) (fun d hd => hall d (by simp [hd])) ha h141 h41 (by simp [hid]; omega)) ?_
        rintro ex env' s' ⟨⟨g1, o, g2⟩, g3, g4⟩
        exact ⟨⟨g1, o, by rw [g2]; simp⟩, g3, by rw [g4, hsh]⟩
      rcases hcc with rfl | rfl
      · have l1 : (acc.length : Int) + 1 ≤ 9223372036854775807 := by omega
        have l2 : (acc.length : Int) + 1 + 1 ≤ 9223372036854775807 := by omega
        have l1' : 1 + (acc.length : Int) ≤ 9223372036854775807 := by omega
        simp [h14, h4, hx, e64, l1, l2, l1']
        exact hgo (91 :: (acc ++ [93])) _ (by simp; omega) (by rw [shW, if_pos rfl]) (by simp [h14]) (by simp)
      · have l1 : (acc.length : Int) + 1 ≤ 9223372036854775807 := by omega
        simp [h14, h4, hx, e64, l1]
        exact hgo (acc ++ [33]) _ (by simp; omega) (by rw [shW, if_neg (by decide)]) (by simp [h14]) (by simp)

theorem rightT_low {x w : List UInt8} (h : rightT x w = true) : ∀ c ∈ w, c = 91 ∨ c = 33 := by
  unfold rightT at h
  refine wrp_low w false ?_
  intro q
  rw [q] at h
  cases h
theorem showT_spec (x w : List UInt8) (hx : x.length ≤ 1000000) (hw : w.length ≤ 1000000) (s : St) : call G 46 [tyV x w] s = some (if rightT x w = true then .tup [.str (shW x w), .int .i64 0] else .tup [.str [], .int .i64 1], s) := by
  have hr := rightT_spec x w hx hw
  simp only [tyV] at hr
  refine call_out (F := af46) rfl rfl ?_
  by_cases h : rightT x w = true
  · simp [af46, af46b, tyV, hr, h]
    refine Out.mono (showLoop w hw (s.obs.length + 1) (w.length + 1) w x _ _ (by omega) (List.suffix_refl _) (rightT_low h) (by omega) (by simp) (by simp) (by simp)) ?_
    rintro ex env' s' ⟨⟨g1, o, g2⟩, rfl, g4⟩
    have hs' : s' = ⟨s.obs ++ [.cells 90 [.str x, .str w], o], s.bufs⟩ := by
      obtain ⟨so, sb⟩ := s'
      simp only at g1 g2
      subst g1
      rw [g2]
      simp
    subst hs'
    simp [g4]
    rw [fin_s0 _ _ _ (by rfl)]
    rfl
  · have h' : rightT x w = false := by simpa using h
    simp [af46, af46b, tyV, hr, h']
    rw [fin_s0 _ _ _ (by rfl)]
    rfl

theorem rshowLoop (x b : List UInt8) (hb : b.length ≤ 1000000) (id : Nat) (s : St) (hs : s.obs[id]? = some (.cells 90 [.str x, .str b])) : ∀ (n : Nat) (l acc : List UInt8) (env : Env), l.length < n → l <:+ b → (∀ c ∈ l, c = 91 ∨ c = 33) → acc.length + 2 * l.length ≤ 10000000 →
    env 1 = .ptr id 0 → env 3 = .str acc → env 4 = .int .i64 ((b.length - l.length : Nat) : Int) →
    Out (evC G (.loop false af49l0) env s) (fun ex env' s' => s' = s ∧ ex = .exit 0 ∧ env' 3 = .str (shW acc l)) := by
  intro n
  induction n with
  | zero => intro l acc env h; omega
  | succ n ih =>
    intro l acc env hn hl hall hacc h1 h3 h4
    have hlen := suf_len hl
    refine Out_loop G false _ _ af49l0.eq_1 _ _ _ ?_
    cases l with
    | nil =>
      simp [h1, h4, hs]
      simp [h3, shW]
    | cons c t =>
      simp only [List.length_cons] at hlen hn hacc h4
      have hgi := at_get hl
      have hlt : b.length - (t.length + 1) < b.length := by omega
      have hlt' : ((b.length - (t.length + 1) : Nat) : Int) < (b.length : Int) := by omega
      have hw : IntKind.i64.wrap (((b.length - (t.length + 1) : Nat) : Int) + 1) = ((b.length - t.length : Nat) : Int) := by rw [wrap_in (by omega) (by omega)]; omega
      have hcc := hall c (by simp)
      have e64 : i64max = 9223372036854775807 := rfl
      have hgo : ∀ (acc' : List UInt8) (env1 : Env), acc'.length + 2 * t.length ≤ 10000000 → shW acc' t = shW acc (c :: t) → env1 1 = .ptr id 0 → env1 3 = .str acc' → env1 4 = .int .i64 ((b.length - t.length : Nat) : Int) →
          Out (evC G (.loop false af49l0) env1 s) (fun ex env' s' => s' = s ∧ ex = .exit 0 ∧ env' 3 = .str (shW acc (c :: t))) := by
        intro acc' env1 ha hsh h11 h31 h41
        refine Out.mono (ih t acc' env1 (by omega) (suf_tail hl) (fun d hd => hall d (by simp [hd])) ha h11 h31 h41) ?_
        rintro ex env' s' ⟨g1, g3, g4⟩
        exact ⟨g1, g3, by rw [g4, hsh]⟩
      rcases hcc with rfl | rfl
      · have l1 : (acc.length : Int) + 1 ≤ 9223372036854775807 := by omega
        have l2 : (acc.length : Int) + 1 + 1 ≤ 9223372036854775807 := by omega
        have l1' : 1 + (acc.length : Int) ≤ 9223372036854775807 := by omega
        simp [h1, h3, h4, hs, hlt, hlt', ↓hgi, hw, e64, l1, l2, l1']
        exact hgo (91 :: (acc ++ [93])) _ (by simp; omega) (by rw [shW, if_pos rfl]) (by simp [h1]) (by simp) (by simp)
      · have l1 : (acc.length : Int) + 1 ≤ 9223372036854775807 := by omega
        simp [h1, h3, h4, hs, hlt, hlt', ↓hgi, hw, e64, l1]
        exact hgo (acc ++ [33]) _ (by simp; omega) (by rw [shW, if_neg (by decide)]) (by simp [h1]) (by simp) (by simp)

theorem rshowT_spec (x w : List UInt8) (hx : x.length ≤ 1000000) (hw : w.length ≤ 1000000) (h : rightT x w = true) (s : St) : call G 49 [tyV x w] s = some (.str (shW x w), s) := by
  refine call_out (F := af49) rfl rfl ?_
  simp [af49, af49b, tyV]
  refine Out.mono (rshowLoop x w hw s.obs.length _ (by simp) (w.length + 1) w x _ (by omega) (List.suffix_refl _) (rightT_low h) (by omega) (by simp) (by simp) (by simp)) ?_
  rintro ex env' s' ⟨rfl, rfl, g4⟩
  simp [g4]
  rw [fin_s0 _ _ _ (by rfl)]
  rfl

end Go.Proofs.YtboejpobmpfifaaGreatDoor.Eng

/-
  A right type, written, is read again. No condition.
-/
namespace Go.Proofs.YtboejpobmpfifaaGreatDoor.Eng
open Go
set_option linter.unusedSimpArgs false
set_option linter.unusedVariables false

attribute [local simp] evC_condT evC_condF evC_reg evC_regD evR_cons evR_nil runR_some regK_some evC_ret evC_skip evC_exit Out_seq Out_blk Out_some seqQ_norm seqQ_ret seqQ_exit blkQ_norm blkQ_ret blkQ_exit loopQ_norm loopQ_ret loopQ_exit
attribute [local simp] stepR evOp put upd_apply X.ev initEnv cells_agg cells_int cells_str cells_bool cells_sl cells_ptr cells_pnil cells_fn cells_map takeN evBin isSh intBin strBin callK resOf packR V.plain plainL V.und undL scK kill dstsO dstsL dstsR ite_some ite_pair ite_vbool evUn evLoad evLen V.real finLoop_false quietK_false kill_none
def ktk (t : Tok) : Int × List UInt8 := (t.k, t.s)
def fB (c : UInt8) : UInt8 := if c = 91 then 93 else 33
def cntL : List UInt8 → Nat
  | [] => 0
  | c :: t => (if c = 91 then 1 else 0) + cntL t
theorem shW_eq : ∀ (w acc : List UInt8), (∀ c ∈ w, c = 91 ∨ c = 33) → shW acc w = List.replicate (cntL w) 91 ++ (acc ++ w.map fB)
  | [], acc, _ => by simp [shW, cntL]
  | c :: t, acc, h => by
    have ih := fun a => shW_eq t a fun d hd => h d (by simp [hd])
    rw [shW, ih]
    rcases h c (by simp) with rfl | rfl
    · rw [if_pos rfl, cntL, if_pos rfl, Nat.add_comm 1, List.replicate_succ']
      simp [fB]
    · rw [if_neg (by decide), cntL, if_neg (by decide), Nat.zero_add]
      simp [fB]

/-! ### Cut into tokens -/
theorem badV_low {b : List UInt8} (h : ∀ c ∈ b, c.toNat < 128) : ∀ f p, badV b f p = -1
  | 0, p => rfl
  | f + 1, p => by
    rw [badV]
    split
    · rename_i hp
      have hc : (b.getD p 0).toNat < 128 := by
        rw [List.getD_eq_getElem?_getD, List.getElem?_eq_getElem hp]
        exact h _ (List.getElem_mem hp)
      have hs : sizeV b p = (1, (b.getD p 0).toNat) := by
        unfold sizeV
        simp only
        rw [if_pos hc]
      rw [hs, if_neg (by simp)]
      exact badV_low h f _
    · rfl
theorem tokP_sign {c : UInt8} (h : isSign c = true) (r : List UInt8) : tokP (c :: r) = .ok (1, [c]) r := by
  have hh : hd0 (c :: r) = c := rfl
  unfold tokP
  rw [hh, if_pos h]; rfl
/-- What stands first is no blank, and begins no remark. -/
def firm (R : List UInt8) : Prop := betw false R = R
theorem firm_cons {c : UInt8} {t : List UInt8} (h1 : isSep c = false) (h2 : c ≠ 35) : firm (c :: t) := by
  unfold firm
  rw [betw, if_neg (by simp [h1]), if_neg h2]
theorem lexL_signs (b : List UInt8) : ∀ (S R : List UInt8) (n : Nat) (toks : List Tok), (∀ c ∈ S, isSign c = true ∧ isSep c = false ∧ c ≠ 35) → firm R → toks.length + S.length ≤ 900 →
    ∃ T, T.map ktk = S.map (fun c => ((1 : Int), [c])) ∧ lexL b (S.length + n) (S ++ R) toks = lexL b n R (toks ++ T)
  | [], R, n, toks, _, _, _ => ⟨[], rfl, by simp⟩
  | c :: S, R, n, toks, h, hR, hl => by
    obtain ⟨h1, h2, h3⟩ := h c (by simp)
    simp only [List.length_cons] at hl
    have hfirm : betw false (S ++ R) = S ++ R := by
      cases S with
      | nil => exact hR
      | cons d S =>
        obtain ⟨_, d2, d3⟩ := h d (by simp)
        exact firm_cons d2 d3
    obtain ⟨T, hT, hL⟩ := lexL_signs b S R n (toks ++ [⟨1, [c], ((b.length - (c :: (S ++ R)).length : Nat) : Int)⟩]) (fun d hd => h d (by simp [hd])) hR (by simp; omega)
    refine ⟨⟨1, [c], ((b.length - (c :: (S ++ R)).length : Nat) : Int)⟩ :: T, by rw [List.map_cons, hT]; rfl, ?_⟩
    rw [List.cons_append, List.length_cons, show S.length + 1 + n = (S.length + n) + 1 by omega, lexL, if_neg (by simp), if_neg (by omega), tokP_sign h1]
    simp only
    rw [hfirm, hL]
    simp
theorem name_parts {x : List UInt8} (h : nameV x = true) : ∃ c u, x = c :: u ∧ isLet c = true ∧ ∀ d ∈ x, isLd d = true := by
  unfold nameV at h
  rw [Bool.and_eq_true, decide_eq_true_eq] at h
  obtain ⟨h1, h2⟩ := h
  obtain ⟨c, u, rfl⟩ := List.exists_cons_of_ne_nil h2
  have key : ∀ (l : List UInt8) (f : Bool), chkN f l = true → ∀ d ∈ l, isLd d = true := by
    intro l
    induction l with
    | nil => intro f _ d hd; cases hd
    | cons e l ih =>
      intro f h d hd
      rw [chkN, Bool.and_eq_true] at h
      rcases List.mem_cons.1 hd with rfl | hd
      · unfold isLd
        cases hq : isLet d with
        | true => rfl
        | false =>
          have := h.1
          rw [hq, Bool.false_or, Bool.and_eq_true] at this
          rw [this.2]; rfl
      · exact ih false h.2 d hd
  refine ⟨c, u, rfl, ?_, key _ _ h1⟩
  rw [chkN, Bool.and_eq_true] at h1
  simpa using h1.1
theorem tw_stop {p : UInt8 → Bool} : ∀ {x R : List UInt8}, (∀ c ∈ x, p c = true) → (∀ c t, R = c :: t → p c = false) → (x ++ R).takeWhile p = x ∧ (x ++ R).dropWhile p = R
  | [], R, _, h => by
    cases R with
    | nil => exact ⟨rfl, rfl⟩
    | cons c t =>
      have := h c t rfl
      rw [List.nil_append, List.takeWhile_cons, List.dropWhile_cons, if_neg (by simp [this]), if_neg (by simp [this])]
      exact ⟨rfl, rfl⟩
  | c :: x, R, hx, h => by
    obtain ⟨h1, h2⟩ := tw_stop (x := x) (R := R) (fun d hd => hx d (by simp [hd])) h
    have hc := hx c (by simp)
    rw [List.cons_append, List.takeWhile_cons, List.dropWhile_cons, if_pos hc, if_pos hc, h1, h2]
    exact ⟨rfl, rfl⟩
theorem let_parts (c : UInt8) (h : isLet c = true) : isSign c = false ∧ isSep c = false ∧ c ≠ 35 ∧ c ≠ 46 ∧ c.toNat < 128 := by
  have key : ∀ k : Fin 256, isLet (UInt8.ofNat k.val) = true → isSign (UInt8.ofNat k.val) = false ∧ isSep (UInt8.ofNat k.val) = false ∧ UInt8.ofNat k.val ≠ 35 ∧ UInt8.ofNat k.val ≠ 46 ∧ (UInt8.ofNat k.val).toNat < 128 := by decide +kernel
  have := key ⟨c.toNat, c.toNat_lt⟩
  simp only [UInt8.ofNat_toNat] at this
  exact this h
theorem ld_lo {c : UInt8} (h : isLd c = true) : c.toNat < 128 := by
  have key : ∀ k : Fin 256, isLd (UInt8.ofNat k.val) = true → (UInt8.ofNat k.val).toNat < 128 := by decide +kernel
  have := key ⟨c.toNat, c.toNat_lt⟩
  simp only [UInt8.ofNat_toNat] at this
  exact this h
theorem tokP_nameR {x R : List UInt8} (h : nameV x = true) (hR : ∀ c t, R = c :: t → isLd c = false) : tokP (x ++ R) = .ok (2, x) R := by
  obtain ⟨c, u, rfl, hc, hall⟩ := name_parts h
  obtain ⟨h1, _, _, h4, _⟩ := let_parts c hc
  obtain ⟨a, b⟩ := tw_stop hall hR
  have hh : hd0 ((c :: u) ++ R) = c := rfl
  have h3 : ¬ begs ((c :: u) ++ R) d3 = true := by
    intro hb
    rw [begs_pre, List.isPrefixOf_iff_prefix] at hb
    obtain ⟨z, hz⟩ := hb
    have : (46 : UInt8) = c := by
      have := congrArg hd0 hz
      rw [hh] at this
      exact this
    exact h4 this.symm
  unfold tokP
  rw [hh, if_neg (by simp [h1]), if_neg h3, if_pos hc, a, b]

def tksW (x w : List UInt8) : List (Int × List UInt8) := List.replicate (cntL w) ((1 : Int), [(91 : UInt8)]) ++ (2, x) :: w.map (fun c => ((1 : Int), [fB c]))
theorem cntL_len : ∀ w, cntL w ≤ w.length
  | [] => Nat.le_refl _
  | c :: t => by
    have := cntL_len t
    rw [cntL, List.length_cons]
    split <;> omega
theorem lexP_type {x w : List UInt8} (hx : nameV x = true) (hw : ∀ c ∈ w, c = 91 ∨ c = 33) (hxl : x.length ≤ 1000) (hwl : w.length ≤ 400) : ∃ L, lexP (shW x w) = (L, 0, 0) ∧ L.map ktk = tksW x w := by
  have hlen := shW_len w x
  rw [shW_eq w x hw] at *
  have hcl := cntL_len w
  obtain ⟨c, u, hxc, hc, hall⟩ := name_parts hx
  obtain ⟨_, l2, l3, _, l5⟩ := let_parts c hc
  have hB : ∀ d ∈ w.map fB, isSign d = true ∧ isSep d = false ∧ d ≠ 35 ∧ isLd d = false ∧ d.toNat < 128 := by
    intro d hd
    obtain ⟨e, he, rfl⟩ := List.mem_map.1 hd
    rcases hw e he with rfl | rfl <;> decide
  have hlow : ∀ d ∈ List.replicate (cntL w) 91 ++ (x ++ w.map fB), d.toNat < 128 := by
    intro d hd
    rcases List.mem_append.1 hd with hd | hd
    · rw [List.mem_replicate] at hd; rw [hd.2]; decide
    · rcases List.mem_append.1 hd with hd | hd
      · exact ld_lo (hall d hd)
      · exact (hB d hd).2.2.2.2
  have hfx : firm (x ++ w.map fB) := by
    rw [hxc, List.cons_append]
    exact firm_cons l2 l3
  have hfB : firm (w.map fB) := by
    cases hq : w.map fB with
    | nil => rfl
    | cons d t =>
      have := hB d (by rw [hq]; simp)
      exact firm_cons this.2.1 this.2.2.1
  generalize hb : List.replicate (cntL w) (91 : UInt8) ++ (x ++ w.map fB) = b at *
  have hbl : b.length = cntL w + (x.length + w.length) := by rw [← hb]; simp
  have hbt : betw false b = b := by
    rw [← hb]
    cases hk : cntL w with
    | zero => rw [List.replicate_zero, List.nil_append]; exact hfx
    | succ k => rw [List.replicate_succ, List.cons_append]; exact firm_cons (by decide) (by decide)
  obtain ⟨T1, hT1, hL1⟩ := lexL_signs b (List.replicate (cntL w) 91) (x ++ w.map fB) (w.length + x.length + 1) [] (fun d hd => by rw [List.mem_replicate] at hd; rw [hd.2]; decide) hfx (by simp; omega)
  have hxp : 1 ≤ x.length := by rw [hxc]; simp
  have hT1l : T1.length = cntL w := by have := congrArg List.length hT1; simpa using this
  obtain ⟨T2, hT2, hL2⟩ := lexL_signs b (w.map fB) [] (x.length) (T1 ++ [⟨2, x, ((b.length - (x ++ w.map fB).length : Nat) : Int)⟩]) (fun d hd => ⟨(hB d hd).1, (hB d hd).2.1, (hB d hd).2.2.1⟩) rfl (by simp; omega)
  refine ⟨(T1 ++ [⟨2, x, ((b.length - (x ++ w.map fB).length : Nat) : Int)⟩]) ++ T2, ?_, ?_⟩
  · have hfin : lexL b (b.length + 1) b [] = .ok ((T1 ++ [⟨2, x, ((b.length - (x ++ w.map fB).length : Nat) : Int)⟩]) ++ T2) [] := by
      have e0 : b.length + 1 = (List.replicate (cntL w) (91 : UInt8)).length + (w.length + x.length + 1) := by rw [hbl, List.length_replicate]; omega
      have : lexL b (b.length + 1) b [] = lexL b ((List.replicate (cntL w) (91 : UInt8)).length + (w.length + x.length + 1)) (List.replicate (cntL w) 91 ++ (x ++ w.map fB)) [] := by rw [hb, ← e0]
      rw [this, hL1, List.nil_append, lexL, if_neg (by rw [hxc]; simp), if_neg (by omega), tokP_nameR hx (fun d t e => (hB d (by rw [e]; simp)).2.2.2.1)]
      simp only
      rw [hfB]
      have e1 : w.length + x.length = (w.map fB).length + x.length := by simp
      rw [e1]
      rw [List.append_nil] at hL2
      rw [hL2]
      obtain ⟨k, hk⟩ : ∃ k, x.length = k + 1 := ⟨x.length - 1, by omega⟩
      rw [hk, lexL, if_pos rfl]
    unfold lexP
    rw [if_neg (by omega), badV_low hlow, if_neg (by decide), hbt, hfin]
  · rw [List.map_append, List.map_append, hT1, hT2]
    simp [tksW, ktk]

/-! ### Read as a type -/
inductive WR0 : List UInt8 → Nat → Prop
  | nil : WR0 [] 0
  | lst (v : List UInt8) (m : Nat) : WR0 v m → WR0 (v ++ [91]) (m + 1)
  | lsb (v : List UInt8) (m : Nat) : WR0 v m → WR0 (v ++ [33, 91]) (m + 1)
theorem wrp_WR0 : ∀ (l : List UInt8) (lb : Bool) (v : List UInt8) (k m : Nat), WR0 v k → wrp lb l = some m → ∃ v', WR0 v' (k + m) ∧ ((if lb = true then v ++ [33] else v) ++ l = v' ∨ (if lb = true then v ++ [33] else v) ++ l = v' ++ [33])
  | [], lb, v, k, m, hv, h => by
    simp only [wrp, Option.some.injEq] at h
    subst h
    refine ⟨v, hv, ?_⟩
    cases lb with
    | true => exact .inr (by simp)
    | false => exact .inl (by simp)
  | c :: t, lb, v, k, m, hv, h => by
    rw [wrp] at h
    by_cases h91 : c = 91
    · rw [if_pos h91] at h
      cases hq : wrp false t with
      | none => rw [hq] at h; cases h
      | some m' =>
        rw [hq] at h
        simp only [Option.map_some, Option.some.injEq] at h
        subst h
        cases lb with
        | true =>
          obtain ⟨v', h1, h2⟩ := wrp_WR0 t false (v ++ [33, 91]) (k + 1) m' (.lsb v k hv) hq
          refine ⟨v', by rw [show k + (m' + 1) = k + 1 + m' by omega]; exact h1, ?_⟩
          simp only [Bool.false_eq_true, if_false, if_true, List.append_assoc, List.cons_append, List.nil_append] at h2 ⊢
          rw [h91]; exact h2
        | false =>
          obtain ⟨v', h1, h2⟩ := wrp_WR0 t false (v ++ [91]) (k + 1) m' (.lst v k hv) hq
          refine ⟨v', by rw [show k + (m' + 1) = k + 1 + m' by omega]; exact h1, ?_⟩
          simp only [Bool.false_eq_true, if_false, List.append_assoc, List.cons_append, List.nil_append] at h2 ⊢
          rw [h91]; exact h2
    · rw [if_neg h91] at h
      by_cases h33 : c = 33 ∧ lb = false
      · rw [if_pos h33] at h
        obtain ⟨rfl, rfl⟩ := h33
        obtain ⟨v', h1, h2⟩ := wrp_WR0 t true v k m hv h
        refine ⟨v', h1, ?_⟩
        simp only [Bool.false_eq_true, if_false, if_true, List.append_assoc, List.cons_append, List.nil_append] at h2 ⊢
        exact h2
      · rw [if_neg h33] at h; cases h

theorem cntL_app : ∀ (v u : List UInt8), cntL (v ++ u) = cntL v + cntL u
  | [], u => by simp [cntL]
  | c :: t, u => by rw [List.cons_append, cntL, cntL, cntL_app t u]; omega
theorem WR0_cnt {v : List UInt8} {m : Nat} (h : WR0 v m) : cntL v = m := by
  induction h with
  | nil => rfl
  | lst v m _ ih => rw [cntL_app, ih]; rfl
  | lsb v m _ ih => rw [cntL_app, ih]; rfl

theorem is_cons (t : Tok) (L : List Tok) (n a : Int) (y : List UInt8) : Lrd.is ⟨t :: L, n, 0, a⟩ y = ((decide (t.k = 1) || decide (t.k = 2)) && decide (t.s = y)) := by
  unfold Lrd.is
  rw [kind_cons]; rfl
theorem is_kt {t : Tok} {k : Int} {z : List UInt8} (h : ktk t = (k, z)) (hk : k = 1 ∨ k = 2) (L : List Tok) (n a : Int) (y : List UInt8) : Lrd.is ⟨t :: L, n, 0, a⟩ y = decide (z = y) := by
  rw [is_cons]
  have h1 : t.k = k := congrArg Prod.fst h
  have h2 : t.s = z := congrArg Prod.snd h
  rw [h1, h2]
  rcases hk with rfl | rfl <;> simp
theorem is_nil (n a : Int) (y : List UInt8) : Lrd.is ⟨[], n, 0, a⟩ y = false := is_over over_nil y
theorem map_cons_split {L : List Tok} {p : Int × List UInt8} {R : List (Int × List UInt8)} (h : L.map ktk = p :: R) : ∃ t T, L = t :: T ∧ ktk t = p ∧ T.map ktk = R := by
  cases L with
  | nil => cases h
  | cons t T =>
    simp only [List.map_cons, List.cons.injEq] at h
    exact ⟨t, T, rfl, h.1, h.2⟩

theorem typ_read {x : List UInt8} (hx : nameV x = true) (N a : Int) {v : List UInt8} {m : Nat} (hv : WR0 v m) : ∀ (n : Nat) (L : List Tok) (R : List (Int × List UInt8)), m ≤ n → L.map ktk = tksW x v ++ R →
    ∃ L', L'.map ktk = R ∧ Lrd.typ n ⟨L, N, 0, a⟩ = Lrd.bang (⟨L', N, 0, a⟩, x, v) := by
  have hx91 : ¬ x = [91] := by
    obtain ⟨c, u, rfl, hc, _⟩ := name_parts hx
    intro h
    simp only [List.cons.injEq] at h
    rw [h.1] at hc
    revert hc
    decide
  have hopen : ∀ (n : Nat) (t : Tok) (L : List Tok), ktk t = (1, [91]) → Lrd.typ (n + 1) ⟨t :: L, N, 0, a⟩ = Lrd.bang ((Lrd.typ n ⟨L, N, 0, a⟩).1.must [93], (Lrd.typ n ⟨L, N, 0, a⟩).2.1, (Lrd.typ n ⟨L, N, 0, a⟩).2.2 ++ [91]) := by
    intro n t L h
    rw [Lrd.typ, is_kt h (.inl rfl), if_pos (by simp)]
    rfl
  have hmust : ∀ (t : Tok) (L : List Tok), ktk t = (1, [93]) → Lrd.must ⟨t :: L, N, 0, a⟩ [93] = ⟨L, N, 0, a⟩ := by
    intro t L h
    unfold Lrd.must
    rw [is_kt h (.inl rfl), if_pos (by simp)]; rfl
  induction hv with
  | nil =>
    intro n L R _ h
    simp only [tksW, cntL, List.replicate_zero, List.nil_append, List.map_nil, List.cons_append] at h
    obtain ⟨t, T, rfl, ht, hT⟩ := map_cons_split h
    refine ⟨T, hT, ?_⟩
    have h1 : t.k = 2 := congrArg Prod.fst ht
    have h2 : t.s = x := congrArg Prod.snd ht
    have hi : Lrd.is ⟨t :: T, N, 0, a⟩ [91] = false := by rw [is_kt ht (.inr rfl)]; exact decide_eq_false hx91
    have hnm : Lrd.name ⟨t :: T, N, 0, a⟩ = (⟨T, N, 0, a⟩, x) := by
      unfold Lrd.name
      rw [kind_cons, if_pos h1]
      simp only [Lrd.hd, h2]
      rfl
    cases n with
    | zero => rw [Lrd.typ, hi, if_neg (by decide), hnm]
    | succ n => rw [Lrd.typ, hi, if_neg (by decide), hnm]
  | lst v m hv ih =>
    intro n L R hn h
    obtain ⟨n, rfl⟩ : ∃ k, n = k + 1 := ⟨n - 1, by omega⟩
    have hc := WR0_cnt hv
    have he : tksW x (v ++ [91]) ++ R = (1, [91]) :: (tksW x v ++ ((1, [93]) :: R)) := by
      simp [tksW, cntL_app, cntL, List.replicate_succ, fB]
    rw [he] at h
    obtain ⟨t, T, rfl, ht, hT⟩ := map_cons_split h
    obtain ⟨L', hL', hty⟩ := ih n T _ (by omega) hT
    obtain ⟨t2, T2, rfl, ht2, hT2⟩ := map_cons_split hL'
    refine ⟨T2, hT2, ?_⟩
    have hb : Lrd.bang (⟨t2 :: T2, N, 0, a⟩, x, v) = (⟨t2 :: T2, N, 0, a⟩, x, v) := by
      unfold Lrd.bang
      rw [is_kt ht2 (.inl rfl), if_neg (by simp)]
    rw [hb] at hty
    rw [hopen n t T ht, hty]
    simp only
    rw [hmust t2 T2 ht2]
  | lsb v m hv ih =>
    intro n L R hn h
    obtain ⟨n, rfl⟩ : ∃ k, n = k + 1 := ⟨n - 1, by omega⟩
    have hc := WR0_cnt hv
    have he : tksW x (v ++ [33, 91]) ++ R = (1, [91]) :: (tksW x v ++ ((1, [33]) :: (1, [93]) :: R)) := by
      simp [tksW, cntL_app, cntL, List.replicate_succ, fB]
    rw [he] at h
    obtain ⟨t, T, rfl, ht, hT⟩ := map_cons_split h
    obtain ⟨L', hL', hty⟩ := ih n T _ (by omega) hT
    obtain ⟨t2, T2, rfl, ht2, hT2⟩ := map_cons_split hL'
    obtain ⟨t3, T3, rfl, ht3, hT3⟩ := map_cons_split hT2
    refine ⟨T3, hT3, ?_⟩
    have hb : Lrd.bang (⟨t2 :: t3 :: T3, N, 0, a⟩, x, v) = (⟨t3 :: T3, N, 0, a⟩, x, v ++ [33]) := by
      unfold Lrd.bang
      rw [is_kt ht2 (.inl rfl), if_pos (by simp)]
      rfl
    rw [hb] at hty
    rw [hopen n t T ht, hty]
    simp only
    rw [hmust t3 T3 ht3]
    simp

theorem right_parts {x w : List UInt8} (h : rightT x w = true) : nameV x = true ∧ ∃ v m, WR0 v m ∧ m ≤ 4 ∧ (w = v ∨ w = v ++ [33]) := by
  unfold rightT at h
  cases hq : wrp false w with
  | none => rw [hq] at h; cases h
  | some n =>
    rw [hq] at h
    simp only [Bool.and_eq_true, decide_eq_true_eq] at h
    obtain ⟨v, h1, h2⟩ := wrp_WR0 w false [] 0 n .nil hq
    rw [Nat.zero_add] at h1
    exact ⟨h.2, v, n, h1, h.1, by simpa using h2⟩

/-- A right type, written, is read again. -/
theorem PT_show {x w : List UInt8} (h : rightT x w = true) (hx : x.length ≤ 1000) (hw : w.length ≤ 400) : PT (shW x w) = (x, w, 0, 0) := by
  obtain ⟨hn, v, m, hv, hm, hw2⟩ := right_parts h
  obtain ⟨L, hL, hk⟩ := lexP_type hn (rightT_low h) hx hw
  have hr : rd0 (shW x w) = ⟨L, (shW x w).length, 0, 0⟩ := by unfold rd0; rw [hL]
  have hty : ∃ n : Int, (rd0 (shW x w)).ty = (⟨[], n, 0, 0⟩, x, w) := by
    rw [hr]
    refine ⟨(shW x w).length, ?_⟩
    generalize ((shW x w).length : Int) = N
    unfold Lrd.ty
    rcases hw2 with rfl | rfl
    · obtain ⟨L', h1, h2⟩ := typ_read hn N 0 hv 4 L [] hm (by rw [List.append_nil]; exact hk)
      have : L' = [] := by simpa using h1
      subst this
      rw [h2]
      unfold Lrd.bang
      rw [is_nil, if_neg (by decide)]; rfl
    · have he : tksW x (v ++ [33]) = tksW x v ++ [(1, [33])] := by simp [tksW, cntL_app, cntL, fB]
      rw [he] at hk
      obtain ⟨L', h1, h2⟩ := typ_read hn N 0 hv 4 L _ hm hk
      obtain ⟨t, T, rfl, ht, hT⟩ := map_cons_split h1
      have : T = [] := by simpa using hT
      subst this
      rw [h2]
      unfold Lrd.bang
      rw [is_kt ht (.inl rfl), if_pos (by simp)]; rfl
  obtain ⟨n, hty⟩ := hty
  unfold PT
  rw [hty]
  rfl

end Go.Proofs.YtboejpobmpfifaaGreatDoor.Eng

/-
  LitTypes in the program. No condition.
-/
namespace Go.Proofs.YtboejpobmpfifaaGreatDoor.Eng
open Go
set_option linter.unusedSimpArgs false
set_option linter.unusedVariables false

attribute [local simp] evC_condT evC_condF evC_reg evC_regD evR_cons evR_nil runR_some regK_some evC_ret evC_skip evC_exit Out_seq Out_blk Out_some seqQ_norm seqQ_ret seqQ_exit blkQ_norm blkQ_ret blkQ_exit loopQ_norm loopQ_ret loopQ_exit
attribute [local simp] stepR evOp put upd_apply X.ev initEnv cells_agg cells_int cells_str cells_bool cells_sl cells_ptr cells_pnil cells_fn cells_map takeN evBin isSh intBin strBin callK resOf packR V.plain plainL V.und undL scK kill dstsO dstsL dstsR ite_some ite_pair ite_vbool evUn evLoad evLen V.real finLoop_false quietK_false kill_none
theorem PT_awake : PT [91, 73, 110, 116, 33, 93] = ([73, 110, 116], [33, 91], 0, 0) := by
  have h : rightT [73, 110, 116] [33, 91] = true := by decide
  have := PT_show h (by decide) (by decide)
  have e : shW [73, 110, 116] [33, 91] = [91, 73, 110, 116, 33, 93] := by decide
  rw [e] at this
  exact this
theorem awakeL_spec (s : St) : call G 44 [] s = some (.bool true, s) := by
  have hl := pt_spec [91, 73, 110, 116, 33, 93] (by decide)
  rw [PT_awake] at hl
  simp only [tyV] at hl
  refine call_out (F := af44) rfl rfl ?_
  simp [af44, af44b, hl, fillL, putL, evStore, V.one, evEqs, eqCells, eqCell]
  rw [fin_s0 _ _ _ (by rfl)]
  rfl

theorem types_law (x w : List UInt8) (s : St) : ∃ s', call G 11 [tyV x w] s = some (.bool true, s') := by
  have ha := awakeL_spec
  refine ⟨s, ?_⟩
  refine call_out (F := af11) rfl rfl ?_
  by_cases hx : 100 < x.length
  · have hx' : (100 : Int) < (x.length : Int) := by omega
    simp [af11, af11b, tyV, ha, hx, hx']
    rw [fin_s0 _ _ _ (by rfl)]
    rfl
  have hx' : ¬ (100 : Int) < (x.length : Int) := by omega
  by_cases hw : 100 < w.length
  · have hw' : (100 : Int) < (w.length : Int) := by omega
    simp [af11, af11b, tyV, ha, hx, hx', hw, hw']
    rw [fin_s0 _ _ _ (by rfl)]
    rfl
  have hw' : ¬ (100 : Int) < (w.length : Int) := by omega
  have h1 := rrightT_spec x w (by omega) (by omega)
  have h2 := showT_spec x w (by omega) (by omega)
  have h3 := rightT_spec x w (by omega) (by omega)
  by_cases hr : rightT x w = true
  · rw [hr] at h1 h3
    simp only [hr, if_true] at h2
    have h4 := pt_spec (shW x w) (by have := shW_len w x; omega)
    rw [PT_show hr (by omega) (by omega)] at h4
    have h5 := rshowT_spec x w (by omega) (by omega) hr
    generalize shW x w = q at *
    simp only [tyV] at h1 h2 h3 h4 h5 ⊢
    simp [af11, af11b, ha, hx, hx', hw, hw', h1, h2, h3, h4, h5, fillL, putL, evStore, V.one, evEqs, eqCells, eqCell]
    rw [fin_s0 _ _ _ (by rfl)]
    rfl
  · have hr' : rightT x w = false := by simpa using hr
    rw [hr'] at h1 h3
    simp only [hr', Bool.false_eq_true, if_false] at h2
    simp only [tyV] at h1 h2 h3 ⊢
    simp [af11, af11b, ha, hx, hx', hw, hw', h1, h2, h3, fillL, putL, evStore, V.one]
    rw [fin_s0 _ _ _ (by rfl)]
    rfl

end Go.Proofs.YtboejpobmpfifaaGreatDoor.Eng
