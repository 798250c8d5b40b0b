/-
  Texts: what the evaluator makes of the reference's Size, Bad, Right and of the program's Bad, Right. No condition.
-/
import Derived.Test.YtjdppboomglenaaDoorJSpec1
import Derived.Lib.DecodeN
import Derived.Lib.RuneCountTail
namespace Go.Proofs.YtjdppboomglenaaDoor.Eng
open Go
set_option linter.unusedSimpArgs false
set_option linter.unusedVariables false

attribute [local simp] evC_reg evR_cons evR_nil runR_some regK_some evC_ret evC_skip evC_exit Out_seq Out_blk Out_some seqQ_norm seqQ_ret seqQ_exit blkQ_norm blkQ_ret blkQ_exit loopQ_norm loopQ_ret loopQ_exit
attribute [local simp] stepR evOp put upd_apply X.ev initEnv cells_agg cells_int cells_str cells_bool cells_sl cells_ptr cells_pnil cells_fn cells_map takeN evBin isSh intBin strBin callK resOf packR fin V.plain plainL V.und undL scK kill dstsO dstsL dstsR ite_some ite_pair ite_vbool evUn evLoad evLen V.real finLoop_false quietK_false kill_none

/-- The bytes behind the first of a rune. -/
def contV (b : List UInt8) (p n : Nat) : Nat → Nat → Nat → Option Nat
  | 0, _, v => some v
  | m + 1, i, v =>
    let d := (b.getD (p + i) 0).toNat
    if d < 128 ∨ 192 ≤ d then none else contV b p n m (i + 1) (v * 64 + d - 128)

theorem byte_lt (x : UInt8) : x.toNat < 256 := x.toNat_lt

theorem sizeLoop (b : List UInt8) (p n : Nat) (hb : b.length ≤ 9223372036854775807) (hpn : p + n ≤ b.length) (hn : n ≤ 4) (v9 : V) :
    ∀ (m i v : Nat) (env : Env) (s : St), n - i = m → i ≤ n → v < 64 ^ i → env 0 = .str b → env 1 = .int .i64 p → env 7 = .int .i64 n → env 8 = .int .i64 v → env 9 = v9 → env 10 = .int .i64 i →
      Out (evC G (.loop false af66l0) env s) (fun e env' s' => s' = s ∧ match contV b p n m i v with
        | some w => e = .exit 0 ∧ env' 8 = .int .i64 w ∧ env' 7 = .int .i64 n ∧ env' 9 = v9
        | none => e = .ret ∧ env' 4 = .int .i64 0 ∧ env' 5 = .int .i32 0) := by
  intro m
  induction m with
  | zero =>
    intro i v env s hm hi hv h0 h1 h7 h8 h9 h10
    have : i = n := by omega
    subst this
    refine Out_loop G false _ _ af66l0.eq_1 _ _ _ ?_
    simp [h7, h10]
    refine Out_cond _ _ _ _ _ _ _ rfl ?_ ?_
    · intro h; simp at h
    · intro _
      simp [h7, h8, h9, contV]
  | succ m ihm =>
    intro i v env s hm hi hv h0 h1 h7 h8 h9 h10
    have hlt : i < n := by omega
    refine Out_loop G false _ _ af66l0.eq_1 _ _ _ ?_
    simp [h7, h10]
    refine Out_cond _ _ _ _ _ _ _ rfl ?_ ?_
    · intro _
      have hx : b[p + i]? = some (b[p + i]'(by omega)) := List.getElem?_eq_getElem (by omega)
      have hg : b.getD (p + i) 0 = b[p + i]'(by omega) := by simp [List.getD, hx]
      have hd := byte_lt (b[p + i]'(by omega))
      generalize b[p + i]'(by omega) = x at *
      have hw1 : IntKind.i64.wrap ((p : Int) + i) = (p : Int) + i := wrap_in (by omega) (by omega)
      have ht : ((p : Int) + i).toNat = p + i := by omega
      have hge : (0 : Int) ≤ (p : Int) + i := by omega
      have hw2 : IntKind.i64.wrap (x.toNat : Int) = x.toNat := wrap_in (by omega) (by omega)
      have h4 : v ≤ 262144 := by
        have : 64 ^ i ≤ 64 ^ 3 := Nat.pow_le_pow_right (by omega) (by omega)
        omega
      simp only [contV, hg]
      simp [h0, h1, h7, h8, h9, h10, hw1, hx, hw2, ht, hge]
      refine Out_cond _ _ _ _ _ _ _ rfl ?_ ?_
      · intro h
        simp at h
        have hc : x.toNat < 128 ∨ 192 ≤ x.toNat := by omega
        simp [hc]
      · intro h
        simp at h
        have hc : ¬ (x.toNat < 128 ∨ 192 ≤ x.toNat) := by omega
        have e1 : IntKind.i64.wrap ((v : Int) * 64) = (v : Int) * 64 := wrap_in (by omega) (by omega)
        have e2 : IntKind.i64.wrap ((v : Int) * 64 + (x.toNat : Int)) = (v : Int) * 64 + x.toNat := wrap_in (by omega) (by omega)
        have e3 : IntKind.i64.wrap ((v : Int) * 64 + (x.toNat : Int) - 128) = ((v * 64 + x.toNat - 128 : Nat) : Int) := by rw [wrap_in (by omega) (by omega)]; omega
        have e4 : IntKind.i64.wrap ((i : Int) + 1) = ((i + 1 : Nat) : Int) := by rw [wrap_in (by omega) (by omega)]; omega
        simp only [Nat.not_lt, not_or, Nat.not_le] at hc
        simp [h8, h10, e1, e2, e3, e4, hc]
        have hlt' : v * 64 + x.toNat - 128 < 64 ^ (i + 1) := by rw [Nat.pow_succ]; omega
        rw [if_neg (by omega)]
        exact ihm (i + 1) (v * 64 + x.toNat - 128) _ s (by omega) (by omega) hlt' (by simp [h0]) (by simp [h1]) (by simp [h7]) (by simp) (by simp [h9]) (by simp)
    · intro h
      simp at h
      omega

theorem wrap32 {n : Int} (h0 : -2147483648 ≤ n) (h1 : n ≤ 2147483647) : IntKind.i32.wrap n = n := by
  have e : (2 : Int) ^ IntKind.i32.bits = 4294967296 := by decide
  have e' : (2 : Int) ^ (IntKind.i32.bits - 1) = 2147483648 := by decide
  have e'' : IntKind.i32.signed = true := by decide
  unfold IntKind.wrap
  simp only [e, e', e'', Bool.true_and, decide_eq_true_eq, ge_iff_le]
  split <;> omega

/-- A rune's bytes at a place, and the rune; 0: none begins there. -/
def sizeV (b : List UInt8) (p : Nat) : Nat × Nat :=
  let c := (b.getD p 0).toNat
  let go (n v least : Nat) : Nat × Nat :=
    if b.length < p + n then (0, 0) else
    match contV b p n (n - 1) 1 v with
    | none => (0, 0)
    | some w => if w < least ∨ 1114111 < w ∨ (55296 ≤ w ∧ w < 57344) then (0, 0) else (n, w)
  if c < 128 then (1, c)
  else if 194 ≤ c ∧ c < 224 then go 2 (c - 192) 128
  else if 224 ≤ c ∧ c < 240 then go 3 (c - 224) 2048
  else if 240 ≤ c ∧ c < 245 then go 4 (c - 240) 65536
  else (0, 0)

theorem size_spec (b : List UInt8) (p : Nat) (hb : b.length ≤ 9223372036854775807) (hp : p < b.length) (s : St) :
    call G 66 [.str b, .int .i64 p] s = some (.tup [.int .i64 (sizeV b p).1, .int .i32 (sizeV b p).2], s) := by
  have hx : b[p]? = some (b[p]'hp) := List.getElem?_eq_getElem hp
  have hg : b.getD p 0 = b[p]'hp := by simp [List.getD, hx]
  have hd := byte_lt (b[p]'hp)
  have ew2 : IntKind.i64.wrap (IntKind.i64.wrap ((b.length : Int) - 2) + 1) = (b.length : Int) - 2 + 1 := by
    rw [wrap_in (n := (b.length : Int) - 2) (by omega) (by omega), wrap_in (by omega) (by omega)]
  have ew3 : IntKind.i64.wrap (IntKind.i64.wrap ((b.length : Int) - 3) + 1) = (b.length : Int) - 3 + 1 := by
    rw [wrap_in (n := (b.length : Int) - 3) (by omega) (by omega), wrap_in (by omega) (by omega)]
  have ew4 : IntKind.i64.wrap (IntKind.i64.wrap ((b.length : Int) - 4) + 1) = (b.length : Int) - 4 + 1 := by
    rw [wrap_in (n := (b.length : Int) - 4) (by omega) (by omega), wrap_in (by omega) (by omega)]
  generalize b[p]'hp = x at *
  have hw2 : IntKind.i64.wrap (x.toNat : Int) = x.toNat := wrap_in (by omega) (by omega)
  refine call_out (F := af66) rfl rfl ?_
  simp [af66, af66b, hx, hw2]
  refine Out_cond _ _ _ _ _ _ _ rfl ?_ ?_
  · intro h
    simp at h
    have hc0 : x.toNat < 128 := by omega
    have e32 : IntKind.i32.wrap (x.toNat : Int) = x.toNat := wrap32 (by omega) (by omega)
    simp [e32, sizeV, hx, hc0]
  · intro h
    simp at h
    have hc0 : ¬ x.toNat < 128 := by omega
    simp
    refine Out_cond _ _ _ _ _ _ _ rfl ?_ ?_
    · intro h2
      simp at h2
      have h2a : 194 ≤ x.toNat := by omega
      have h2b : x.toNat < 224 := by omega
      have ev : IntKind.i64.wrap ((x.toNat : Int) - 192) = ((x.toNat - 192 : Nat) : Int) := by rw [wrap_in (by omega) (by omega)]; omega
      simp [ev]
      refine Out_cond _ _ _ _ _ _ _ rfl (fun h3 => by simp at h3; omega) (fun _ => ?_)
      simp
      refine Out_cond _ _ _ _ _ _ _ rfl (fun h3 => by simp at h3; omega) (fun _ => ?_)
      simp
      refine Out_cond _ _ _ _ _ _ _ rfl ?_ ?_
      · intro hp
        simp at hp
        have hp' : b.length < p + 2 := by
          rw [ew2] at hp
          omega
        simp [sizeV, hx, hc0, h2a, h2b, hp']
      · intro hp
        simp at hp
        have hp' : ¬ (b.length < p + 2) := by
          rw [ew2] at hp
          omega
        have hpn : p + 2 ≤ b.length := by
          rw [ew2] at hp
          omega
        simp
        refine (sizeLoop b p 2 hb hpn (by omega) (.int .i64 128) 1 1 (x.toNat - 192) _ _ (by omega) (by omega) (by simp; omega) (by simp) (by simp) (by simp) (by simp) (by simp) (by simp)).mono ?_
        rintro e env s' ⟨rfl, hq⟩
        cases hcv : contV b p 2 1 1 (x.toNat - 192) with
        | none =>
          rw [hcv] at hq
          obtain ⟨rfl, q4, q5⟩ := hq
          simp [q4, q5, sizeV, hx, hc0, h2a, h2b, hp', hcv]
        | some w =>
          rw [hcv] at hq
          obtain ⟨rfl, q8, q7, q9⟩ := hq
          simp [q8, q7, q9]
          refine Out_cond _ _ _ _ _ _ _ rfl ?_ ?_
          · intro hw
            simp at hw
            have hw' : w < 128 ∨ 1114111 < w ∨ (55296 ≤ w ∧ w < 57344) := by omega
            simp [sizeV, hx, hc0, h2a, h2b, hp', hcv, hw']
          · intro hw
            simp at hw
            have hw' : ¬ (w < 128 ∨ 1114111 < w ∨ (55296 ≤ w ∧ w < 57344)) := by omega
            have e32 : IntKind.i32.wrap (w : Int) = w := wrap32 (by omega) (by omega)
            simp [q7, q8, e32, sizeV, hx, hc0, h2a, h2b, hp', hcv, hw']
    · intro h2
      simp at h2
      have n2 : ¬ (194 ≤ x.toNat ∧ x.toNat < 224) := by omega
      simp
      refine Out_cond _ _ _ _ _ _ _ rfl ?_ ?_
      · intro h3
        simp at h3
        have h3a : 224 ≤ x.toNat := by omega
        have h3b : x.toNat < 240 := by omega
        have ev : IntKind.i64.wrap ((x.toNat : Int) - 224) = ((x.toNat - 224 : Nat) : Int) := by rw [wrap_in (by omega) (by omega)]; omega
        simp [ev]
        refine Out_cond _ _ _ _ _ _ _ rfl (fun h3 => by simp at h3; omega) (fun _ => ?_)
        simp
        refine Out_cond _ _ _ _ _ _ _ rfl ?_ ?_
        · intro hp
          simp at hp
          have hp' : b.length < p + 3 := by
            rw [ew3] at hp
            omega
          simp [sizeV, hx, hc0, n2, h3a, h3b, hp']
        · intro hp
          simp at hp
          have hp' : ¬ (b.length < p + 3) := by
            rw [ew3] at hp
            omega
          have hpn : p + 3 ≤ b.length := by
            rw [ew3] at hp
            omega
          simp
          refine (sizeLoop b p 3 hb hpn (by omega) (.int .i64 2048) 2 1 (x.toNat - 224) _ _ (by omega) (by omega) (by simp; omega) (by simp) (by simp) (by simp) (by simp) (by simp) (by simp)).mono ?_
          rintro e env s' ⟨rfl, hq⟩
          cases hcv : contV b p 3 2 1 (x.toNat - 224) with
          | none =>
            rw [hcv] at hq
            obtain ⟨rfl, q4, q5⟩ := hq
            simp [q4, q5, sizeV, hx, hc0, n2, h3a, h3b, hp', hcv]
          | some w =>
            rw [hcv] at hq
            obtain ⟨rfl, q8, q7, q9⟩ := hq
            simp [q8, q7, q9]
            refine Out_cond _ _ _ _ _ _ _ rfl ?_ ?_
            · intro hw
              simp at hw
              have hw' : w < 2048 ∨ 1114111 < w ∨ (55296 ≤ w ∧ w < 57344) := by omega
              simp [sizeV, hx, hc0, n2, h3a, h3b, hp', hcv, hw']
            · intro hw
              simp at hw
              have hw' : ¬ (w < 2048 ∨ 1114111 < w ∨ (55296 ≤ w ∧ w < 57344)) := by omega
              have e32 : IntKind.i32.wrap (w : Int) = w := wrap32 (by omega) (by omega)
              simp [q7, q8, e32, sizeV, hx, hc0, n2, h3a, h3b, hp', hcv, hw']
      · intro h3
        simp at h3
        have n3 : ¬ (224 ≤ x.toNat ∧ x.toNat < 240) := by omega
        simp
        refine Out_cond _ _ _ _ _ _ _ rfl ?_ ?_
        · intro h4
          simp at h4
          have h4a : 240 ≤ x.toNat := by omega
          have h4b : x.toNat < 245 := by omega
          have ev : IntKind.i64.wrap ((x.toNat : Int) - 240) = ((x.toNat - 240 : Nat) : Int) := by rw [wrap_in (by omega) (by omega)]; omega
          simp [ev]
          refine Out_cond _ _ _ _ _ _ _ rfl ?_ ?_
          · intro hp
            simp at hp
            have hp' : b.length < p + 4 := by
              rw [ew4] at hp
              omega
            simp [sizeV, hx, hc0, n2, n3, h4a, h4b, hp']
          · intro hp
            simp at hp
            have hp' : ¬ (b.length < p + 4) := by
              rw [ew4] at hp
              omega
            have hpn : p + 4 ≤ b.length := by
              rw [ew4] at hp
              omega
            simp
            refine (sizeLoop b p 4 hb hpn (by omega) (.int .i64 65536) 3 1 (x.toNat - 240) _ _ (by omega) (by omega) (by simp; omega) (by simp) (by simp) (by simp) (by simp) (by simp) (by simp)).mono ?_
            rintro e env s' ⟨rfl, hq⟩
            cases hcv : contV b p 4 3 1 (x.toNat - 240) with
            | none =>
              rw [hcv] at hq
              obtain ⟨rfl, q4, q5⟩ := hq
              simp [q4, q5, sizeV, hx, hc0, n2, n3, h4a, h4b, hp', hcv]
            | some w =>
              rw [hcv] at hq
              obtain ⟨rfl, q8, q7, q9⟩ := hq
              simp [q8, q7, q9]
              refine Out_cond _ _ _ _ _ _ _ rfl ?_ ?_
              · intro hw
                simp at hw
                have hw' : w < 65536 ∨ 1114111 < w ∨ (55296 ≤ w ∧ w < 57344) := by omega
                simp [sizeV, hx, hc0, n2, n3, h4a, h4b, hp', hcv, hw']
              · intro hw
                simp at hw
                have hw' : ¬ (w < 65536 ∨ 1114111 < w ∨ (55296 ≤ w ∧ w < 57344)) := by omega
                have e32 : IntKind.i32.wrap (w : Int) = w := wrap32 (by omega) (by omega)
                simp [q7, q8, e32, sizeV, hx, hc0, n2, n3, h4a, h4b, hp', hcv, hw']
        · intro h4
          simp at h4
          have n4 : ¬ (240 ≤ x.toNat ∧ x.toNat < 245) := by omega
          simp
          refine Out_cond _ _ _ _ _ _ _ rfl (fun _ => ?_) (fun h5 => by simp at h5)
          simp [sizeV, hx, hc0, n2, n3, n4]

theorem sizeV_le (b : List UInt8) (p : Nat) (hp : p < b.length) : (sizeV b p).1 ≤ 4 ∧ p + (sizeV b p).1 ≤ b.length ∧ (sizeV b p).2 ≤ 1114111 := by
  unfold sizeV
  have hd := byte_lt (b.getD p 0)
  generalize b.getD p 0 = x at *
  have go : ∀ n v least, n ≤ 4 → (if b.length < p + n then (0, 0) else match contV b p n (n - 1) 1 v with
    | none => (0, 0)
    | some w => if w < least ∨ 1114111 < w ∨ (55296 ≤ w ∧ w < 57344) then (0, 0) else (n, w) : Nat × Nat).1 ≤ 4 ∧
    p + (if b.length < p + n then (0, 0) else match contV b p n (n - 1) 1 v with
    | none => (0, 0)
    | some w => if w < least ∨ 1114111 < w ∨ (55296 ≤ w ∧ w < 57344) then (0, 0) else (n, w) : Nat × Nat).1 ≤ b.length ∧ (if b.length < p + n then (0, 0) else match contV b p n (n - 1) 1 v with
    | none => (0, 0)
    | some w => if w < least ∨ 1114111 < w ∨ (55296 ≤ w ∧ w < 57344) then (0, 0) else (n, w) : Nat × Nat).2 ≤ 1114111 := by
    intro n v least hn
    split
    · simp; omega
    · split
      · simp; omega
      · split
        · simp; omega
        · simp; omega
  simp only
  split
  · simp; omega
  · split
    · exact go 2 _ _ (by omega)
    · split
      · exact go 3 _ _ (by omega)
      · split
        · exact go 4 _ _ (by omega)
        · simp; omega

/-- Where no rune begins; -1. -/
def badV (b : List UInt8) : Nat → Nat → Int
  | 0, _ => -1
  | f + 1, p => if p < b.length then if (sizeV b p).1 = 0 then p else badV b f (p + (sizeV b p).1) else -1

theorem badLoop (b : List UInt8) (hb : b.length ≤ 9223372036854775807) : ∀ (f p : Nat) (env : Env) (s : St), p ≤ b.length → b.length < p + f → env 0 = .str b → env 3 = .int .i64 p →
    Out (evC G (.loop false af49l0) env s) (fun e env' s' => s' = s ∧ ((badV b f p = -1 ∧ e = .exit 0) ∨ (badV b f p ≠ -1 ∧ e = .ret ∧ env' 2 = .int .i64 (badV b f p)))) := by
  intro f
  induction f with
  | zero => intro p env s h1 h2; omega
  | succ f ih =>
    intro p env s hp hf h0 h3
    refine Out_loop G false _ _ af49l0.eq_1 _ _ _ ?_
    simp [h0, h3]
    refine Out_cond _ _ _ _ _ _ _ rfl ?_ ?_
    · intro hlt
      simp at hlt
      have hs := sizeV_le b p hlt
      simp [h0, h3, size_spec b p hb hlt]
      refine Out_cond _ _ _ _ _ _ _ rfl ?_ ?_
      · intro hz
        simp at hz
        simp [h3, badV, hlt, hz]
      · intro hz
        simp at hz
        have hw : IntKind.i64.wrap ((p : Int) + ((sizeV b p).1 : Int)) = ((p + (sizeV b p).1 : Nat) : Int) := by rw [wrap_in (by omega) (by omega)]; omega
        simp only [badV, if_pos hlt, if_neg hz]
        simp [h3, hw]
        exact ih (p + (sizeV b p).1) _ s (by omega) (by omega) (by simp [h0]) (by simp)
    · intro hge
      simp at hge
      have : ¬ p < b.length := by omega
      simp [badV, this]

theorem badV_ge (b : List UInt8) : ∀ f p, -1 ≤ badV b f p
  | 0, p => by simp [badV]
  | f + 1, p => by
    unfold badV
    split
    · split
      · omega
      · exact badV_ge b f _
    · omega

theorem bad_spec (b : List UInt8) (hb : b.length ≤ 9223372036854775807) (s : St) : call G 49 [.str b] s = some (.int .i64 (badV b (b.length + 1) 0), s) := by
  refine call_out (F := af49) rfl rfl ?_
  simp [af49, af49b]
  refine (badLoop b hb (b.length + 1) 0 _ _ (by omega) (by omega) (by simp) (by simp)).mono ?_
  rintro e env s' ⟨rfl, ⟨h1, rfl⟩ | ⟨h1, rfl, h2⟩⟩
  · simp [h1]
  · simp [h2]

theorem right_spec (b : List UInt8) (hb : b.length ≤ 9223372036854775807) (s : St) : call G 35 [.str b] s = some (.bool (decide (badV b (b.length + 1) 0 = -1)), s) := by
  refine call_out (F := af35) rfl rfl ?_
  simp [af35, af35b, bad_spec b hb]

/-! ### The program's -/
theorem nxt_at (b : List UInt8) (pos id : Nat) (s : St) (h : s.obs[id]? = some (.iter b pos)) (hp : pos < b.length) :
    evNxt (.itr id) s = some (.tup [.bool true, .int .i64 pos, .int .i32 (Utf8.decode ⟨b.toArray⟩ pos).1], { s with obs := s.obs.set id (.iter b (pos + (Utf8.decode ⟨b.toArray⟩ pos).2)) }) := by
  simp only [evNxt, h, if_pos hp]
theorem nxt_end (b : List UInt8) (pos id : Nat) (s : St) (h : s.obs[id]? = some (.iter b pos)) (hp : ¬ pos < b.length) :
    evNxt (.itr id) s = some (.tup [.bool false], s) := by
  simp only [evNxt, h, if_neg hp]

theorem dec_spec (b : List UInt8) (s : St) : call G 59 [.str b] s = some (.tup [.int .i32 (Lib.decodeGo ⟨b.toArray⟩).1, .int .i64 (Lib.decodeGo ⟨b.toArray⟩).2], s) := by
  rw [call_eq]
  rfl

/-- A rune at a place, as Go's range decodes it. -/
def decV (b : List UInt8) (p : Nat) : Nat × Nat := Utf8.decode ⟨b.toArray⟩ p

theorem decV_le (b : List UInt8) (p : Nat) (hp : p < b.length) : 1 ≤ (decV b p).2 ∧ p + (decV b p).2 ≤ b.length ∧ (decV b p).1 ≤ 1114111 := by
  unfold decV
  rw [Lib.decode_at]
  have hs : (⟨b.toArray⟩ : ByteArray).size = b.length := rfl
  rw [hs]
  generalize ((⟨b.toArray⟩ : ByteArray).get! p).toNat = b0
  generalize ((⟨b.toArray⟩ : ByteArray).get! (p + 1)).toNat = b1
  generalize ((⟨b.toArray⟩ : ByteArray).get! (p + 2)).toNat = b2
  generalize ((⟨b.toArray⟩ : ByteArray).get! (p + 3)).toNat = b3
  unfold Lib.decodeN
  repeat' split
  all_goals (simp only; omega)

def textBadV (b : List UInt8) : Nat → Nat → Int
  | 0, _ => -1
  | f + 1, p =>
    if p < b.length then
      if (decV b p).1 ≠ 65533 then textBadV b f (p + (decV b p).2)
      else if (Lib.decodeGo ⟨(b.drop p).toArray⟩).2 = 1 then p
      else textBadV b f (p + (decV b p).2)
    else -1

theorem textBadLoop (b : List UInt8) (hb : b.length ≤ 9223372036854775807) (id : Nat) : ∀ (f p : Nat) (env : Env) (s : St), p ≤ b.length → b.length < p + f → env 0 = .str b → env 8 = .itr id → s.obs[id]? = some (.iter b p) →
    Out (evC G (.loop false af41l0) env s) (fun e env' s' => (s'.bufs = s.bufs ∧ ∃ o, s'.obs = s.obs.set id o) ∧
      ((textBadV b f p = -1 ∧ e = .exit 0) ∨ (textBadV b f p ≠ -1 ∧ e = .ret ∧ env' 2 = .int .i64 (textBadV b f p)))) := by
  intro f
  induction f with
  | zero => intro p env s h1 h2; omega
  | succ f ih =>
    intro p env s hp hf h0 h8 hs
    refine Out_loop G false _ _ af41l0.eq_1 _ _ _ ?_
    by_cases hlt : p < b.length
    · have hd := decV_le b p hlt
      have hid : id < s.obs.length := lt_of_get hs
      simp [h0, h8, nxt_at b p id s hs hlt]
      refine Out_cond _ _ _ _ _ _ _ rfl (fun _ => ?_) (fun h => by cases h)
      simp
      have hnext : ∀ (env' : Env), env' 0 = .str b → env' 8 = .itr id →
          Out (evC G (.loop false af41l0) env' { obs := s.obs.set id (.iter b (p + (decV b p).2)), bufs := s.bufs }) (fun e env' s' => (s'.bufs = s.bufs ∧ ∃ o, s'.obs = s.obs.set id o) ∧
            ((textBadV b f (p + (decV b p).2) = -1 ∧ e = .exit 0) ∨ (textBadV b f (p + (decV b p).2) ≠ -1 ∧ e = .ret ∧ env' 2 = .int .i64 (textBadV b f (p + (decV b p).2))))) := by
        intro env' g0 g8
        refine (ih (p + (decV b p).2) env' _ (by omega) (by omega) g0 g8 (by simp [hid])).mono ?_
        rintro e env'' s' ⟨⟨g1, o, g2⟩, g3⟩
        refine ⟨⟨g1, o, ?_⟩, g3⟩
        rw [g2]
        simp
      refine Out_cond _ _ _ _ _ _ _ rfl ?_ ?_
      · intro h
        have hne : (decV b p).1 ≠ 65533 := by
          intro e
          unfold decV at e
          simp [e] at h
        simp
        simp only [textBadV, if_pos hlt, if_pos hne]
        exact hnext _ (by simp [h0]) (by simp [h8])
      · intro h
        have heq : (decV b p).1 = 65533 := by
          simp at h
          unfold decV
          omega
        simp [h0, evSlcS, bnd, dec_spec, hp]
        refine Out_cond _ _ _ _ _ _ _ rfl ?_ ?_
        · intro h1
          simp at h1
          have h1' : (Lib.decodeGo ⟨(b.drop p).toArray⟩).2 = 1 := by omega
          have hv : textBadV b (f + 1) p = p := by simp [textBadV, hlt, heq, h1']
          simp [hv]
          exact ⟨_, rfl⟩
        · intro h1
          simp at h1
          have h1' : ¬ (Lib.decodeGo ⟨(b.drop p).toArray⟩).2 = 1 := by omega
          have hv : textBadV b (f + 1) p = textBadV b f (p + (decV b p).2) := by simp [textBadV, hlt, heq, h1']
          simp
          rw [hv]
          exact hnext _ (by simp [h0]) (by simp [h8])
    · simp [h0, h8, nxt_end b p id s hs hlt]
      refine Out_cond _ _ _ _ _ _ _ rfl (fun h => by cases h) (fun _ => ?_)
      simp [textBadV, hlt]
      exact ⟨.iter b p, by
        apply List.ext_getElem?
        intro j
        by_cases hj : id = j
        · subst hj; rw [List.getElem?_set_self (lt_of_get hs), hs]
        · rw [List.getElem?_set_ne hj]⟩

theorem textBad_spec (b : List UInt8) (hb : b.length ≤ 9223372036854775807) (s : St) : call G 41 [.str b] s = some (.int .i64 (textBadV b (b.length + 1) 0), s) := by
  refine call_out (F := af41) rfl rfl ?_
  simp [af41, af41b]
  refine (textBadLoop b hb s.obs.length (b.length + 1) 0 _ _ (by omega) (by omega) (by simp) (by simp) (by simp)).mono ?_
  rintro e env s' ⟨⟨hbf, o, hob⟩, ⟨h1, rfl⟩ | ⟨h1, rfl, h2⟩⟩
  · simp [h1, hbf, hob, List.set_append]
  · simp [h2, hbf, hob, List.set_append]

theorem textRight_spec (b : List UInt8) (hb : b.length ≤ 9223372036854775807) (s : St) : call G 24 [.str b] s = some (.bool (decide (textBadV b (b.length + 1) 0 < 0)), s) := by
  refine call_out (F := af24) rfl rfl ?_
  simp [af24, af24b, textBad_spec b hb]

/-! ### They are one -/
theorem get!_list (b : List UInt8) (p : Nat) : (⟨b.toArray⟩ : ByteArray).get! p = b.getD p 0 := by
  have := Lib.getD_get!' ⟨b.toArray⟩ p
  simpa using this.symm

theorem sizeV_dec (b : List UInt8) (p : Nat) (hp : p < b.length) : sizeV b p = if decV b p = (65533, 1) then (0, 0) else ((decV b p).2, (decV b p).1) := by
  unfold decV sizeV
  rw [Lib.decode_at]
  have hs : (⟨b.toArray⟩ : ByteArray).size = b.length := rfl
  rw [hs]
  simp only [get!_list, contV]
  have e1 := byte_lt (b.getD p 0)
  have e2 := byte_lt (b.getD (p + 1) 0)
  have e3 := byte_lt (b.getD (p + 2) 0)
  have e4 := byte_lt (b.getD (p + 3) 0)
  generalize (b.getD p 0).toNat = b0 at *
  generalize (b.getD (p + 1) 0).toNat = b1 at *
  generalize (b.getD (p + 1 + 1) 0).toNat = b2 at *
  generalize (b.getD (p + 3) 0).toNat = b3 at *
  generalize b.length = n at *
  have n1 : (1 < n - p) = ¬ (n < p + 2) := propext ⟨fun h => by omega, fun h => by omega⟩
  have n2 : (2 < n - p) = ¬ (n < p + 3) := propext ⟨fun h => by omega, fun h => by omega⟩
  have n3 : (3 < n - p) = ¬ (n < p + 4) := propext ⟨fun h => by omega, fun h => by omega⟩
  have d1 : (b1 / 64 = 2) = ¬ (b1 < 128 ∨ 192 ≤ b1) := propext ⟨fun h => by omega, fun h => by omega⟩
  have d2 : (b2 / 64 = 2) = ¬ (b2 < 128 ∨ 192 ≤ b2) := propext ⟨fun h => by omega, fun h => by omega⟩
  have d3 : (b3 / 64 = 2) = ¬ (b3 < 128 ∨ 192 ≤ b3) := propext ⟨fun h => by omega, fun h => by omega⟩
  by_cases c0 : b0 < 128
  · simp only [if_pos c0, Lib.decodeN]
    simp
    omega
  · simp only [if_neg c0, Lib.decodeN, n1, n2, n3, d1, d2, d3]
    by_cases k2 : 194 ≤ b0 ∧ b0 < 224
    · have q1 : b0 / 32 = 6 := by omega
      have q2 : ¬ b0 / 16 = 14 := by omega
      have q3 : ¬ b0 / 8 = 30 := by omega
      simp only [if_pos k2, q1, q2, q3, true_and, false_and, if_false]
      by_cases m2 : n < p + 2
      · simp [m2]
      · by_cases c1 : b1 < 128 ∨ 192 ≤ b1
        · simp [m2, c1]
        · have hv : b0 % 32 * 64 + b1 % 64 = (b0 - 192) * 64 + b1 - 128 := by omega
          have h1 : 128 ≤ (b0 - 192) * 64 + b1 - 128 := by omega
          have h2 : ¬ ((b0 - 192) * 64 + b1 - 128 < 128 ∨ 1114111 < (b0 - 192) * 64 + b1 - 128 ∨ 55296 ≤ (b0 - 192) * 64 + b1 - 128 ∧ (b0 - 192) * 64 + b1 - 128 < 57344) := by omega
          simp only [if_neg m2, if_neg c1, hv, ge_iff_le, if_pos h1, if_neg h2, m2, c1, not_false_eq_true, and_self, if_true, if_false]
          simp
          try omega
    · simp only [if_neg k2]
      by_cases k3 : 224 ≤ b0 ∧ b0 < 240
      · have q1 : ¬ b0 / 32 = 6 := by omega
        have q2 : b0 / 16 = 14 := by omega
        have q3 : ¬ b0 / 8 = 30 := by omega
        simp only [if_pos k3, q1, q2, q3, true_and, false_and, if_false]
        by_cases m2 : n < p + 3
        · simp [m2]
        · have m1 : ¬ n < p + 2 := by omega
          by_cases c1 : b1 < 128 ∨ 192 ≤ b1
          · simp [m2, c1]
          · by_cases c2 : b2 < 128 ∨ 192 ≤ b2
            · simp [m2, c1, c2]
            · have hv : b0 % 16 * 4096 + b1 % 64 * 64 + b2 % 64 = ((b0 - 224) * 64 + b1 - 128) * 64 + b2 - 128 := by omega
              simp only [if_neg m2, if_neg c1, if_neg c2, hv, m1, m2, c1, c2, not_false_eq_true, and_self, if_true, if_false]
              generalize ((b0 - 224) * 64 + b1 - 128) * 64 + b2 - 128 = w at *
              by_cases hw : w < 2048 ∨ 1114111 < w ∨ 55296 ≤ w ∧ w < 57344
              · have hc : ¬ (w ≥ 2048 ∧ (w < 55296 ∨ 57344 ≤ w ∧ w ≤ 1114111)) := by omega
                simp only [if_pos hw, if_neg hc, if_true]
              · have hc : w ≥ 2048 ∧ (w < 55296 ∨ 57344 ≤ w ∧ w ≤ 1114111) := by omega
                have hx : ¬ ((w, 3) : Nat × Nat) = (65533, 1) := by simp
                simp only [if_neg hw, if_pos hc, if_neg hx]
      · simp only [if_neg k3]
        by_cases k4 : 240 ≤ b0 ∧ b0 < 245
        · have q1 : ¬ b0 / 32 = 6 := by omega
          have q2 : ¬ b0 / 16 = 14 := by omega
          have q3 : b0 / 8 = 30 := by omega
          simp only [if_pos k4, q1, q2, q3, true_and, false_and, if_false]
          by_cases m2 : n < p + 4
          · simp [m2]
          · have m1 : ¬ n < p + 2 := by omega
            have m3 : ¬ n < p + 3 := by omega
            by_cases c1 : b1 < 128 ∨ 192 ≤ b1
            · simp [m2, c1]
            · by_cases c2 : b2 < 128 ∨ 192 ≤ b2
              · simp [m2, c1, c2]
              · by_cases c3 : b3 < 128 ∨ 192 ≤ b3
                · simp [m2, c1, c2, c3]
                · have hv : b0 % 8 * 262144 + b1 % 64 * 4096 + b2 % 64 * 64 + b3 % 64 = (((b0 - 240) * 64 + b1 - 128) * 64 + b2 - 128) * 64 + b3 - 128 := by omega
                  simp only [if_neg m2, if_neg c1, if_neg c2, if_neg c3, hv, m1, m2, m3, c1, c2, c3, not_false_eq_true, and_self, if_true, if_false]
                  generalize (((b0 - 240) * 64 + b1 - 128) * 64 + b2 - 128) * 64 + b3 - 128 = w at *
                  by_cases hw : w < 65536 ∨ 1114111 < w ∨ 55296 ≤ w ∧ w < 57344
                  · have hc : ¬ (w ≥ 65536 ∧ (w < 55296 ∨ 57344 ≤ w ∧ w ≤ 1114111)) := by omega
                    simp only [if_pos hw, if_neg hc, if_true]
                  · have hc : w ≥ 65536 ∧ (w < 55296 ∨ 57344 ≤ w ∧ w ≤ 1114111) := by omega
                    have hx : ¬ ((w, 4) : Nat × Nat) = (65533, 1) := by simp
                    simp only [if_neg hw, if_pos hc, if_neg hx]
        · simp only [if_neg k4]
          have q2 : ¬ b0 / 16 = 14 := by omega
          simp only [q2, false_and, if_false]
          have r1 : b0 / 32 = 6 → ¬ (b0 % 32 * 64 + b1 % 64 ≥ 128) := by omega
          have r2 : b0 / 8 = 30 → ¬ (b0 % 8 * 262144 + b1 % 64 * 4096 + b2 % 64 * 64 + b3 % 64 ≥ 65536 ∧
            (b0 % 8 * 262144 + b1 % 64 * 4096 + b2 % 64 * 64 + b3 % 64 < 55296 ∨ 57344 ≤ b0 % 8 * 262144 + b1 % 64 * 4096 + b2 % 64 * 64 + b3 % 64 ∧ b0 % 8 * 262144 + b1 % 64 * 4096 + b2 % 64 * 64 + b3 % 64 ≤ 1114111)) := by omega
          by_cases q1 : b0 / 32 = 6
          · have q3 : ¬ b0 / 8 = 30 := by omega
            simp only [q1, q3, if_neg (r1 q1), true_and, false_and, if_false, ite_self, if_true]
          · by_cases q3 : b0 / 8 = 30
            · simp only [q1, q3, if_neg (r2 q3), true_and, false_and, if_false, ite_self, if_true]
            · simp only [q1, q3, true_and, false_and, if_false, ite_self, if_true]

theorem decGo_drop (b : List UInt8) (p : Nat) (hp : p < b.length) : Lib.decodeGo ⟨(b.drop p).toArray⟩ = decV b p := by
  have hs : (⟨(b.drop p).toArray⟩ : ByteArray).size = b.length - p := by
    show (b.drop p).toArray.size = _
    simp
  have hs2 : (⟨b.toArray⟩ : ByteArray).size = b.length := rfl
  unfold Lib.decodeGo decV
  rw [if_neg (by omega), Lib.decode_at, Lib.decode_at, hs, hs2]
  simp only [get!_list, Nat.sub_zero]
  have hd : ∀ i, (b.drop p).getD i 0 = b.getD (p + i) 0 := fun i => by simp [List.getD, List.getElem?_drop]
  simp only [hd, Nat.add_zero, Nat.zero_add]

theorem textBad_bad (b : List UInt8) : ∀ f p, textBadV b f p = badV b f p
  | 0, _ => rfl
  | f + 1, p => by
    unfold textBadV badV
    split
    · rename_i hp
      have hd := decV_le b p hp
      rw [decGo_drop b p hp, sizeV_dec b p hp]
      by_cases h1 : (decV b p).1 = 65533
      · by_cases h2 : (decV b p).2 = 1
        · have e : decV b p = (65533, 1) := Prod.ext h1 h2
          simp [e]
        · have e : ¬ decV b p = (65533, 1) := fun q => h2 (by rw [q])
          have h3 : ¬ (decV b p).2 = 0 := by omega
          simp [h1, h2, e, h3, textBad_bad b f]
      · have e : ¬ decV b p = (65533, 1) := fun q => h1 (by rw [q])
        have h3 : ¬ (decV b p).2 = 0 := by omega
        simp [h1, e, h3, textBad_bad b f]
    · rfl

/-- A text is right: P1.1. -/
def rightV (b : List UInt8) : Bool := decide (badV b (b.length + 1) 0 = -1)

theorem refRight_spec (b : List UInt8) (hb : b.length ≤ 9223372036854775807) (s : St) : call G 35 [.str b] s = some (.bool (rightV b), s) := right_spec b hb s

theorem textRight_spec' (b : List UInt8) (hb : b.length ≤ 9223372036854775807) (s : St) : call G 24 [.str b] s = some (.bool (rightV b), s) := by
  rw [textRight_spec b hb, textBad_bad]
  have := badV_ge b (b.length + 1) 0
  have e : decide (badV b (b.length + 1) 0 < 0) = rightV b := by
    unfold rightV
    by_cases h : badV b (b.length + 1) 0 = -1
    · simp [h]
    · have : ¬ badV b (b.length + 1) 0 < 0 := by omega
      simp [h, this]
  rw [e]

end Go.Proofs.YtjdppboomglenaaDoor.Eng
