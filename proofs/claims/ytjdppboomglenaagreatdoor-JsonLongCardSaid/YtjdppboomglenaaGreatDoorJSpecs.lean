/-
  JSON: what the functions do, one behind the other. No condition.
-/
import Derived.Test.YtjdppboomglenaaGreatDoorJBase
import Derived.Test.YtjdppboomglenaaGreatDoorEngS
import Derived.Lib.DecodeN
import Derived.Lib.RuneCountTail
/-
  Values of JSON, and what the evaluator makes of small functions over them: few. No condition.
-/
namespace Go.Proofs.YtjdppboomglenaaGreatDoor.Eng
open Go
set_option linter.unusedSimpArgs false

inductive JV where
  | mk (kind n : Int) (s : List UInt8) (l : List JV) (f : List (List UInt8 × JV))

mutual
def vc : JV → List V
  | .mk k n s l f => [.int .i64 k, .int .i64 n, .str s, .sl .no (toVs l), .sl .no (toPs f)]
def toVs : List JV → List V
  | [] => []
  | v :: vs => .agg (vc v) :: toVs vs
def toPs : List (List UInt8 × JV) → List V
  | [] => []
  | p :: ps => .agg (.str p.1 :: vc p.2) :: toPs ps
end
/-- A value. -/
abbrev toV (v : JV) : V := .agg (vc v)
theorem vc_length (v : JV) : (vc v).length = 5 := by cases v; simp [vc]
theorem vc_take (v : JV) : (vc v).take 5 = vc v := List.take_of_length_le (by rw [vc_length]; omega)
mutual
theorem vc_plain : ∀ v : JV, plainL (vc v) = vc v
  | .mk k n s l f => by simp [vc, plainL, V.plain, toVs_plain l, toPs_plain f]
theorem toVs_plain : ∀ l : List JV, plainL (toVs l) = toVs l
  | [] => rfl
  | v :: vs => by simp [toVs, plainL, V.plain, vc_plain v, toVs_plain vs]
theorem toPs_plain : ∀ l : List (List UInt8 × JV), plainL (toPs l) = toPs l
  | [] => rfl
  | p :: ps => by simp [toPs, plainL, V.plain, vc_plain p.2, toPs_plain ps]
end
mutual
theorem vc_und : ∀ (v : JV) (n b : Nat), undL n b (vc v) = true
  | .mk k m s l f, n, b => by simp [vc, undL, V.und, toVs_und l n b, toPs_und f n b]
theorem toVs_und : ∀ (l : List JV) (n b : Nat), undL n b (toVs l) = true
  | [], _, _ => rfl
  | v :: vs, n, b => by simp [toVs, undL, V.und, vc_und v n b, toVs_und vs n b]
theorem toPs_und : ∀ (l : List (List UInt8 × JV)) (n b : Nat), undL n b (toPs l) = true
  | [], _, _ => rfl
  | p :: ps, n, b => by simp [toPs, undL, V.und, vc_und p.2 n b, toPs_und ps n b]
end
def JV.kind : JV → Int | .mk k _ _ _ _ => k
def JV.n : JV → Int | .mk _ n _ _ _ => n
def JV.s : JV → List UInt8 | .mk _ _ s _ _ => s
def JV.l : JV → List JV | .mk _ _ _ l _ => l
def JV.f : JV → List (List UInt8 × JV) | .mk _ _ _ _ f => f

theorem toVs_length (l : List JV) : (toVs l).length = l.length := by induction l <;> simp [toVs, *]
theorem toPs_length (l : List (List UInt8 × JV)) : (toPs l).length = l.length := by induction l <;> simp [toPs, *]
theorem toVs_get (l : List JV) (i : Nat) : (toVs l)[i]? = (l[i]?).map toV := by
  induction l generalizing i with
  | nil => simp [toVs]
  | cons x l ih => cases i <;> simp [toVs, ih]
theorem toPs_get (l : List (List UInt8 × JV)) (i : Nat) : (toPs l)[i]? = (l[i]?).map fun p => .agg (.str p.1 :: vc p.2) := by
  induction l generalizing i with
  | nil => simp [toPs]
  | cons x l ih => cases i <;> simp [toPs, ih]

/-! Numbers that an int64 holds; lengths that an int holds. -/
mutual
def JV.ok : JV → Prop
  | .mk k n s l f => (-9223372036854775808 ≤ k ∧ k ≤ 9223372036854775807) ∧ (-9223372036854775808 ≤ n ∧ n ≤ 9223372036854775807) ∧ s.length ≤ 9223372036854775807 ∧
    l.length ≤ 9223372036854775807 ∧ f.length ≤ 9223372036854775807 ∧ okVs l ∧ okPs f
def okVs : List JV → Prop
  | [] => True
  | v :: vs => v.ok ∧ okVs vs
def okPs : List (List UInt8 × JV) → Prop
  | [] => True
  | p :: ps => p.1.length ≤ 9223372036854775807 ∧ p.2.ok ∧ okPs ps
end
theorem okVs_mem {l : List JV} (h : okVs l) : ∀ v ∈ l, v.ok := by
  induction l with
  | nil => simp
  | cons x l ih => intro v hv; exact (List.mem_cons.1 hv).elim (fun e => e ▸ h.1) (fun hv => ih h.2 v hv)
theorem okPs_mem {l : List (List UInt8 × JV)} (h : okPs l) : ∀ p ∈ l, p.1.length ≤ 9223372036854775807 ∧ p.2.ok := by
  induction l with
  | nil => simp
  | cons x l ih => intro v hv; exact (List.mem_cons.1 hv).elim (fun e => e ▸ ⟨h.1, h.2.1⟩) (fun hv => ih h.2.2 v hv)

/-! ### few -/
mutual
def fewV : JV → Int → Int
  | .mk _ _ s l f, n => if n < 1 ∨ 500 < s.length then -1 else fewPs f (fewVs l (n - 1))
def fewVs : List JV → Int → Int
  | [], n => n
  | v :: vs, n => if 0 ≤ n then fewVs vs (fewV v n) else n
def fewPs : List (List UInt8 × JV) → Int → Int
  | [], n => n
  | p :: ps, n => if 0 ≤ n then if 500 < p.1.length then -1 else fewPs ps (fewV p.2 n) else n
end

attribute [local simp] evC_reg evR_cons evR_nil runR_some regK_some evC_ret evC_skip evC_exit Out_seq Out_blk Out_some seqQ_norm seqQ_ret seqQ_exit blkQ_norm blkQ_ret blkQ_exit loopQ_norm loopQ_ret loopQ_exit
attribute [local simp] stepR evOp put upd_apply X.ev initEnv cells_agg cells_int cells_str cells_bool cells_sl cells_ptr cells_pnil cells_fn cells_map vc_length vc_take vc_plain vc_und takeN evBin isSh intBin strBin callK resOf packR fin V.plain V.und scK kill dstsO dstsL dstsR ite_some ite_pair ite_vbool evUn evLoad evLen V.real finLoop_false quietK_false kill_none

mutual
theorem fewV_le : ∀ (v : JV) (n : Int), -1 ≤ fewV v n ∧ (0 ≤ n → fewV v n ≤ n)
  | .mk k nn s l f, n => by
    unfold fewV
    split
    · omega
    · have h1 := fewVs_le l (n - 1) (by omega)
      have h2 := fewPs_le f (fewVs l (n - 1)) (by omega)
      omega
theorem fewVs_le : ∀ (l : List JV) (n : Int), -1 ≤ n → -1 ≤ fewVs l n ∧ fewVs l n ≤ n
  | [], n, h => by simp [fewVs, h]
  | v :: vs, n, h => by
    unfold fewVs
    split
    · rename_i h0
      have h1 := fewV_le v n
      have h2 := fewVs_le vs (fewV v n) (by omega)
      omega
    · omega
theorem fewPs_le : ∀ (l : List (List UInt8 × JV)) (n : Int), -1 ≤ n → -1 ≤ fewPs l n ∧ fewPs l n ≤ n
  | [], n, h => by simp [fewPs, h]
  | p :: ps, n, h => by
    unfold fewPs
    split
    · split
      · omega
      · have h1 := fewV_le p.2 n
        have h2 := fewPs_le ps (fewV p.2 n) (by omega)
        omega
    · omega
end

end Go.Proofs.YtjdppboomglenaaGreatDoor.Eng

/-
  Texts: what the evaluator makes of the reference's Size, Bad, Right and of the program's Bad, Right. No condition.
-/
namespace Go.Proofs.YtjdppboomglenaaGreatDoor.Eng
open Go
set_option linter.unusedSimpArgs false
set_option linter.unusedVariables false

attribute [local simp] evC_reg evR_cons evR_nil runR_some regK_some evC_ret evC_skip evC_exit Out_seq Out_blk Out_some seqQ_norm seqQ_ret seqQ_exit blkQ_norm blkQ_ret blkQ_exit loopQ_norm loopQ_ret loopQ_exit
attribute [local simp] stepR evOp put upd_apply X.ev initEnv cells_agg cells_int cells_str cells_bool cells_sl cells_ptr cells_pnil cells_fn cells_map takeN evBin isSh intBin strBin callK resOf packR fin V.plain plainL V.und undL scK kill dstsO dstsL dstsR ite_some ite_pair ite_vbool evUn evLoad evLen V.real finLoop_false quietK_false kill_none

/-- The bytes behind the first of a rune. -/
def contV (b : List UInt8) (p n : Nat) : Nat → Nat → Nat → Option Nat
  | 0, _, v => some v
  | m + 1, i, v =>
    let d := (b.getD (p + i) 0).toNat
    if d < 128 ∨ 192 ≤ d then none else contV b p n m (i + 1) (v * 64 + d - 128)

theorem byte_lt (x : UInt8) : x.toNat < 256 := x.toNat_lt

theorem sizeLoop (b : List UInt8) (p n : Nat) (hb : b.length ≤ 9223372036854775807) (hpn : p + n ≤ b.length) (hn : n ≤ 4) (v9 : V) :
    ∀ (m i v : Nat) (env : Env) (s : St), n - i = m → i ≤ n → v < 64 ^ i → env 0 = .str b → env 1 = .int .i64 p → env 7 = .int .i64 n → env 8 = .int .i64 v → env 9 = v9 → env 10 = .int .i64 i →
      Out (evC G (.loop false af49l0) env s) (fun e env' s' => s' = s ∧ match contV b p n m i v with
        | some w => e = .exit 0 ∧ env' 8 = .int .i64 w ∧ env' 7 = .int .i64 n ∧ env' 9 = v9
        | none => e = .ret ∧ env' 4 = .int .i64 0 ∧ env' 5 = .int .i32 0) := by
  intro m
  induction m with
  | zero =>
    intro i v env s hm hi hv h0 h1 h7 h8 h9 h10
    have : i = n := by omega
    subst this
    refine Out_loop G false _ _ af49l0.eq_1 _ _ _ ?_
    simp [h7, h10]
    refine Out_cond _ _ _ _ _ _ _ rfl ?_ ?_
    · intro h; simp at h
    · intro _
      simp [h7, h8, h9, contV]
  | succ m ihm =>
    intro i v env s hm hi hv h0 h1 h7 h8 h9 h10
    have hlt : i < n := by omega
    refine Out_loop G false _ _ af49l0.eq_1 _ _ _ ?_
    simp [h7, h10]
    refine Out_cond _ _ _ _ _ _ _ rfl ?_ ?_
    · intro _
      have hx : b[p + i]? = some (b[p + i]'(by omega)) := List.getElem?_eq_getElem (by omega)
      have hg : b.getD (p + i) 0 = b[p + i]'(by omega) := by simp [List.getD, hx]
      have hd := byte_lt (b[p + i]'(by omega))
      generalize b[p + i]'(by omega) = x at *
      have hw1 : IntKind.i64.wrap ((p : Int) + i) = (p : Int) + i := wrap_in (by omega) (by omega)
      have ht : ((p : Int) + i).toNat = p + i := by omega
      have hge : (0 : Int) ≤ (p : Int) + i := by omega
      have hw2 : IntKind.i64.wrap (x.toNat : Int) = x.toNat := wrap_in (by omega) (by omega)
      have h4 : v ≤ 262144 := by
        have : 64 ^ i ≤ 64 ^ 3 := Nat.pow_le_pow_right (by omega) (by omega)
        omega
      simp only [contV, hg]
      simp [h0, h1, h7, h8, h9, h10, hw1, hx, hw2, ht, hge]
      refine Out_cond _ _ _ _ _ _ _ rfl ?_ ?_
      · intro h
        simp at h
        have hc : x.toNat < 128 ∨ 192 ≤ x.toNat := by omega
        simp [hc]
      · intro h
        simp at h
        have hc : ¬ (x.toNat < 128 ∨ 192 ≤ x.toNat) := by omega
        have e1 : IntKind.i64.wrap ((v : Int) * 64) = (v : Int) * 64 := wrap_in (by omega) (by omega)
        have e2 : IntKind.i64.wrap ((v : Int) * 64 + (x.toNat : Int)) = (v : Int) * 64 + x.toNat := wrap_in (by omega) (by omega)
        have e3 : IntKind.i64.wrap ((v : Int) * 64 + (x.toNat : Int) - 128) = ((v * 64 + x.toNat - 128 : Nat) : Int) := by rw [wrap_in (by omega) (by omega)]; omega
        have e4 : IntKind.i64.wrap ((i : Int) + 1) = ((i + 1 : Nat) : Int) := by rw [wrap_in (by omega) (by omega)]; omega
        simp only [Nat.not_lt, not_or, Nat.not_le] at hc
        simp [h8, h10, e1, e2, e3, e4, hc]
        have hlt' : v * 64 + x.toNat - 128 < 64 ^ (i + 1) := by rw [Nat.pow_succ]; omega
        rw [if_neg (by omega)]
        exact ihm (i + 1) (v * 64 + x.toNat - 128) _ s (by omega) (by omega) hlt' (by simp [h0]) (by simp [h1]) (by simp [h7]) (by simp) (by simp [h9]) (by simp)
    · intro h
      simp at h
      omega

theorem wrap32 {n : Int} (h0 : -2147483648 ≤ n) (h1 : n ≤ 2147483647) : IntKind.i32.wrap n = n := by
  have e : (2 : Int) ^ IntKind.i32.bits = 4294967296 := by decide
  have e' : (2 : Int) ^ (IntKind.i32.bits - 1) = 2147483648 := by decide
  have e'' : IntKind.i32.signed = true := by decide
  unfold IntKind.wrap
  simp only [e, e', e'', Bool.true_and, decide_eq_true_eq, ge_iff_le]
  split <;> omega

/-- A rune's bytes at a place, and the rune; 0: none begins there. -/
def sizeV (b : List UInt8) (p : Nat) : Nat × Nat :=
  let c := (b.getD p 0).toNat
  let go (n v least : Nat) : Nat × Nat :=
    if b.length < p + n then (0, 0) else
    match contV b p n (n - 1) 1 v with
    | none => (0, 0)
    | some w => if w < least ∨ 1114111 < w ∨ (55296 ≤ w ∧ w < 57344) then (0, 0) else (n, w)
  if c < 128 then (1, c)
  else if 194 ≤ c ∧ c < 224 then go 2 (c - 192) 128
  else if 224 ≤ c ∧ c < 240 then go 3 (c - 224) 2048
  else if 240 ≤ c ∧ c < 245 then go 4 (c - 240) 65536
  else (0, 0)

theorem size_spec (b : List UInt8) (p : Nat) (hb : b.length ≤ 9223372036854775807) (hp : p < b.length) (s : St) :
    call G 49 [.str b, .int .i64 p] s = some (.tup [.int .i64 (sizeV b p).1, .int .i32 (sizeV b p).2], s) := by
  have hx : b[p]? = some (b[p]'hp) := List.getElem?_eq_getElem hp
  have hg : b.getD p 0 = b[p]'hp := by simp [List.getD, hx]
  have hd := byte_lt (b[p]'hp)
  have ew2 : IntKind.i64.wrap (IntKind.i64.wrap ((b.length : Int) - 2) + 1) = (b.length : Int) - 2 + 1 := by
    rw [wrap_in (n := (b.length : Int) - 2) (by omega) (by omega), wrap_in (by omega) (by omega)]
  have ew3 : IntKind.i64.wrap (IntKind.i64.wrap ((b.length : Int) - 3) + 1) = (b.length : Int) - 3 + 1 := by
    rw [wrap_in (n := (b.length : Int) - 3) (by omega) (by omega), wrap_in (by omega) (by omega)]
  have ew4 : IntKind.i64.wrap (IntKind.i64.wrap ((b.length : Int) - 4) + 1) = (b.length : Int) - 4 + 1 := by
    rw [wrap_in (n := (b.length : Int) - 4) (by omega) (by omega), wrap_in (by omega) (by omega)]
  generalize b[p]'hp = x at *
  have hw2 : IntKind.i64.wrap (x.toNat : Int) = x.toNat := wrap_in (by omega) (by omega)
  refine call_out (F := af49) rfl rfl ?_
  simp [af49, af49b, hx, hw2]
  refine Out_cond _ _ _ _ _ _ _ rfl ?_ ?_
  · intro h
    simp at h
    have hc0 : x.toNat < 128 := by omega
    have e32 : IntKind.i32.wrap (x.toNat : Int) = x.toNat := wrap32 (by omega) (by omega)
    simp [e32, sizeV, hx, hc0]
  · intro h
    simp at h
    have hc0 : ¬ x.toNat < 128 := by omega
    simp
    refine Out_cond _ _ _ _ _ _ _ rfl ?_ ?_
    · intro h2
      simp at h2
      have h2a : 194 ≤ x.toNat := by omega
      have h2b : x.toNat < 224 := by omega
      have ev : IntKind.i64.wrap ((x.toNat : Int) - 192) = ((x.toNat - 192 : Nat) : Int) := by rw [wrap_in (by omega) (by omega)]; omega
      simp [ev]
      refine Out_cond _ _ _ _ _ _ _ rfl (fun h3 => by simp at h3; omega) (fun _ => ?_)
      simp
      refine Out_cond _ _ _ _ _ _ _ rfl (fun h3 => by simp at h3; omega) (fun _ => ?_)
      simp
      refine Out_cond _ _ _ _ _ _ _ rfl ?_ ?_
      · intro hp
        simp at hp
        have hp' : b.length < p + 2 := by
          rw [ew2] at hp
          omega
        simp [sizeV, hx, hc0, h2a, h2b, hp']
      · intro hp
        simp at hp
        have hp' : ¬ (b.length < p + 2) := by
          rw [ew2] at hp
          omega
        have hpn : p + 2 ≤ b.length := by
          rw [ew2] at hp
          omega
        simp
        refine (sizeLoop b p 2 hb hpn (by omega) (.int .i64 128) 1 1 (x.toNat - 192) _ _ (by omega) (by omega) (by simp; omega) (by simp) (by simp) (by simp) (by simp) (by simp) (by simp)).mono ?_
        rintro e env s' ⟨rfl, hq⟩
        cases hcv : contV b p 2 1 1 (x.toNat - 192) with
        | none =>
          rw [hcv] at hq
          obtain ⟨rfl, q4, q5⟩ := hq
          simp [q4, q5, sizeV, hx, hc0, h2a, h2b, hp', hcv]
        | some w =>
          rw [hcv] at hq
          obtain ⟨rfl, q8, q7, q9⟩ := hq
          simp [q8, q7, q9]
          refine Out_cond _ _ _ _ _ _ _ rfl ?_ ?_
          · intro hw
            simp at hw
            have hw' : w < 128 ∨ 1114111 < w ∨ (55296 ≤ w ∧ w < 57344) := by omega
            simp [sizeV, hx, hc0, h2a, h2b, hp', hcv, hw']
          · intro hw
            simp at hw
            have hw' : ¬ (w < 128 ∨ 1114111 < w ∨ (55296 ≤ w ∧ w < 57344)) := by omega
            have e32 : IntKind.i32.wrap (w : Int) = w := wrap32 (by omega) (by omega)
            simp [q7, q8, e32, sizeV, hx, hc0, h2a, h2b, hp', hcv, hw']
    · intro h2
      simp at h2
      have n2 : ¬ (194 ≤ x.toNat ∧ x.toNat < 224) := by omega
      simp
      refine Out_cond _ _ _ _ _ _ _ rfl ?_ ?_
      · intro h3
        simp at h3
        have h3a : 224 ≤ x.toNat := by omega
        have h3b : x.toNat < 240 := by omega
        have ev : IntKind.i64.wrap ((x.toNat : Int) - 224) = ((x.toNat - 224 : Nat) : Int) := by rw [wrap_in (by omega) (by omega)]; omega
        simp [ev]
        refine Out_cond _ _ _ _ _ _ _ rfl (fun h3 => by simp at h3; omega) (fun _ => ?_)
        simp
        refine Out_cond _ _ _ _ _ _ _ rfl ?_ ?_
        · intro hp
          simp at hp
          have hp' : b.length < p + 3 := by
            rw [ew3] at hp
            omega
          simp [sizeV, hx, hc0, n2, h3a, h3b, hp']
        · intro hp
          simp at hp
          have hp' : ¬ (b.length < p + 3) := by
            rw [ew3] at hp
            omega
          have hpn : p + 3 ≤ b.length := by
            rw [ew3] at hp
            omega
          simp
          refine (sizeLoop b p 3 hb hpn (by omega) (.int .i64 2048) 2 1 (x.toNat - 224) _ _ (by omega) (by omega) (by simp; omega) (by simp) (by simp) (by simp) (by simp) (by simp) (by simp)).mono ?_
          rintro e env s' ⟨rfl, hq⟩
          cases hcv : contV b p 3 2 1 (x.toNat - 224) with
          | none =>
            rw [hcv] at hq
            obtain ⟨rfl, q4, q5⟩ := hq
            simp [q4, q5, sizeV, hx, hc0, n2, h3a, h3b, hp', hcv]
          | some w =>
            rw [hcv] at hq
            obtain ⟨rfl, q8, q7, q9⟩ := hq
            simp [q8, q7, q9]
            refine Out_cond _ _ _ _ _ _ _ rfl ?_ ?_
            · intro hw
              simp at hw
              have hw' : w < 2048 ∨ 1114111 < w ∨ (55296 ≤ w ∧ w < 57344) := by omega
              simp [sizeV, hx, hc0, n2, h3a, h3b, hp', hcv, hw']
            · intro hw
              simp at hw
              have hw' : ¬ (w < 2048 ∨ 1114111 < w ∨ (55296 ≤ w ∧ w < 57344)) := by omega
              have e32 : IntKind.i32.wrap (w : Int) = w := wrap32 (by omega) (by omega)
              simp [q7, q8, e32, sizeV, hx, hc0, n2, h3a, h3b, hp', hcv, hw']
      · intro h3
        simp at h3
        have n3 : ¬ (224 ≤ x.toNat ∧ x.toNat < 240) := by omega
        simp
        refine Out_cond _ _ _ _ _ _ _ rfl ?_ ?_
        · intro h4
          simp at h4
          have h4a : 240 ≤ x.toNat := by omega
          have h4b : x.toNat < 245 := by omega
          have ev : IntKind.i64.wrap ((x.toNat : Int) - 240) = ((x.toNat - 240 : Nat) : Int) := by rw [wrap_in (by omega) (by omega)]; omega
          simp [ev]
          refine Out_cond _ _ _ _ _ _ _ rfl ?_ ?_
          · intro hp
            simp at hp
            have hp' : b.length < p + 4 := by
              rw [ew4] at hp
              omega
            simp [sizeV, hx, hc0, n2, n3, h4a, h4b, hp']
          · intro hp
            simp at hp
            have hp' : ¬ (b.length < p + 4) := by
              rw [ew4] at hp
              omega
            have hpn : p + 4 ≤ b.length := by
              rw [ew4] at hp
              omega
            simp
            refine (sizeLoop b p 4 hb hpn (by omega) (.int .i64 65536) 3 1 (x.toNat - 240) _ _ (by omega) (by omega) (by simp; omega) (by simp) (by simp) (by simp) (by simp) (by simp) (by simp)).mono ?_
            rintro e env s' ⟨rfl, hq⟩
            cases hcv : contV b p 4 3 1 (x.toNat - 240) with
            | none =>
              rw [hcv] at hq
              obtain ⟨rfl, q4, q5⟩ := hq
              simp [q4, q5, sizeV, hx, hc0, n2, n3, h4a, h4b, hp', hcv]
            | some w =>
              rw [hcv] at hq
              obtain ⟨rfl, q8, q7, q9⟩ := hq
              simp [q8, q7, q9]
              refine Out_cond _ _ _ _ _ _ _ rfl ?_ ?_
              · intro hw
                simp at hw
                have hw' : w < 65536 ∨ 1114111 < w ∨ (55296 ≤ w ∧ w < 57344) := by omega
                simp [sizeV, hx, hc0, n2, n3, h4a, h4b, hp', hcv, hw']
              · intro hw
                simp at hw
                have hw' : ¬ (w < 65536 ∨ 1114111 < w ∨ (55296 ≤ w ∧ w < 57344)) := by omega
                have e32 : IntKind.i32.wrap (w : Int) = w := wrap32 (by omega) (by omega)
                simp [q7, q8, e32, sizeV, hx, hc0, n2, n3, h4a, h4b, hp', hcv, hw']
        · intro h4
          simp at h4
          have n4 : ¬ (240 ≤ x.toNat ∧ x.toNat < 245) := by omega
          simp
          refine Out_cond _ _ _ _ _ _ _ rfl (fun _ => ?_) (fun h5 => by simp at h5)
          simp [sizeV, hx, hc0, n2, n3, n4]

theorem sizeV_le (b : List UInt8) (p : Nat) (hp : p < b.length) : (sizeV b p).1 ≤ 4 ∧ p + (sizeV b p).1 ≤ b.length ∧ (sizeV b p).2 ≤ 1114111 := by
  unfold sizeV
  have hd := byte_lt (b.getD p 0)
  generalize b.getD p 0 = x at *
  have go : ∀ n v least, n ≤ 4 → (if b.length < p + n then (0, 0) else match contV b p n (n - 1) 1 v with
    | none => (0, 0)
    | some w => if w < least ∨ 1114111 < w ∨ (55296 ≤ w ∧ w < 57344) then (0, 0) else (n, w) : Nat × Nat).1 ≤ 4 ∧
    p + (if b.length < p + n then (0, 0) else match contV b p n (n - 1) 1 v with
    | none => (0, 0)
    | some w => if w < least ∨ 1114111 < w ∨ (55296 ≤ w ∧ w < 57344) then (0, 0) else (n, w) : Nat × Nat).1 ≤ b.length ∧ (if b.length < p + n then (0, 0) else match contV b p n (n - 1) 1 v with
    | none => (0, 0)
    | some w => if w < least ∨ 1114111 < w ∨ (55296 ≤ w ∧ w < 57344) then (0, 0) else (n, w) : Nat × Nat).2 ≤ 1114111 := by
    intro n v least hn
    split
    · simp; omega
    · split
      · simp; omega
      · split
        · simp; omega
        · simp; omega
  simp only
  split
  · simp; omega
  · split
    · exact go 2 _ _ (by omega)
    · split
      · exact go 3 _ _ (by omega)
      · split
        · exact go 4 _ _ (by omega)
        · simp; omega

/-- Where no rune begins; -1. -/
def badV (b : List UInt8) : Nat → Nat → Int
  | 0, _ => -1
  | f + 1, p => if p < b.length then if (sizeV b p).1 = 0 then p else badV b f (p + (sizeV b p).1) else -1

theorem badV_ge (b : List UInt8) : ∀ f p, -1 ≤ badV b f p
  | 0, p => by simp [badV]
  | f + 1, p => by
    unfold badV
    split
    · split
      · omega
      · exact badV_ge b f _
    · omega

/-! ### The program's -/
theorem nxt_at (b : List UInt8) (pos id : Nat) (s : St) (h : s.obs[id]? = some (.iter b pos)) (hp : pos < b.length) :
    evNxt (.itr id) s = some (.tup [.bool true, .int .i64 pos, .int .i32 (Utf8.decode ⟨b.toArray⟩ pos).1], { s with obs := s.obs.set id (.iter b (pos + (Utf8.decode ⟨b.toArray⟩ pos).2)) }) := by
  simp only [evNxt, h, if_pos hp]
theorem nxt_end (b : List UInt8) (pos id : Nat) (s : St) (h : s.obs[id]? = some (.iter b pos)) (hp : ¬ pos < b.length) :
    evNxt (.itr id) s = some (.tup [.bool false], s) := by
  simp only [evNxt, h, if_neg hp]

theorem dec_spec (b : List UInt8) (s : St) : call G 68 [.str b] s = some (.tup [.int .i32 (Lib.decodeGo ⟨b.toArray⟩).1, .int .i64 (Lib.decodeGo ⟨b.toArray⟩).2], s) := by
  rw [call_eq]
  rfl

/-- A rune at a place, as Go's range decodes it. -/
def decV (b : List UInt8) (p : Nat) : Nat × Nat := Utf8.decode ⟨b.toArray⟩ p

theorem decV_le (b : List UInt8) (p : Nat) (hp : p < b.length) : 1 ≤ (decV b p).2 ∧ p + (decV b p).2 ≤ b.length ∧ (decV b p).1 ≤ 1114111 := by
  unfold decV
  rw [Lib.decode_at]
  have hs : (⟨b.toArray⟩ : ByteArray).size = b.length := rfl
  rw [hs]
  generalize ((⟨b.toArray⟩ : ByteArray).get! p).toNat = b0
  generalize ((⟨b.toArray⟩ : ByteArray).get! (p + 1)).toNat = b1
  generalize ((⟨b.toArray⟩ : ByteArray).get! (p + 2)).toNat = b2
  generalize ((⟨b.toArray⟩ : ByteArray).get! (p + 3)).toNat = b3
  unfold Lib.decodeN
  repeat' split
  all_goals (simp only; omega)

def textBadV (b : List UInt8) : Nat → Nat → Int
  | 0, _ => -1
  | f + 1, p =>
    if p < b.length then
      if (decV b p).1 ≠ 65533 then textBadV b f (p + (decV b p).2)
      else if (Lib.decodeGo ⟨(b.drop p).toArray⟩).2 = 1 then p
      else textBadV b f (p + (decV b p).2)
    else -1

theorem textBadLoop (b : List UInt8) (hb : b.length ≤ 9223372036854775807) (id : Nat) : ∀ (f p : Nat) (env : Env) (s : St), p ≤ b.length → b.length < p + f → env 0 = .str b → env 8 = .itr id → s.obs[id]? = some (.iter b p) →
    Out (evC G (.loop false af59l0) env s) (fun e env' s' => (s'.bufs = s.bufs ∧ ∃ o, s'.obs = s.obs.set id o) ∧
      ((textBadV b f p = -1 ∧ e = .exit 0) ∨ (textBadV b f p ≠ -1 ∧ e = .ret ∧ env' 2 = .int .i64 (textBadV b f p)))) := by
  intro f
  induction f with
  | zero => intro p env s h1 h2; omega
  | succ f ih =>
    intro p env s hp hf h0 h8 hs
    refine Out_loop G false _ _ af59l0.eq_1 _ _ _ ?_
    by_cases hlt : p < b.length
    · have hd := decV_le b p hlt
      have hid : id < s.obs.length := lt_of_get hs
      simp [h0, h8, nxt_at b p id s hs hlt]
      refine Out_cond _ _ _ _ _ _ _ rfl (fun _ => ?_) (fun h => by cases h)
      simp
      have hnext : ∀ (env' : Env), env' 0 = .str b → env' 8 = .itr id →
          Out (evC G (.loop false af59l0) env' { obs := s.obs.set id (.iter b (p + (decV b p).2)), bufs := s.bufs }) (fun e env' s' => (s'.bufs = s.bufs ∧ ∃ o, s'.obs = s.obs.set id o) ∧
            ((textBadV b f (p + (decV b p).2) = -1 ∧ e = .exit 0) ∨ (textBadV b f (p + (decV b p).2) ≠ -1 ∧ e = .ret ∧ env' 2 = .int .i64 (textBadV b f (p + (decV b p).2))))) := by
        intro env' g0 g8
        refine (ih (p + (decV b p).2) env' _ (by omega) (by omega) g0 g8 (by simp [hid])).mono ?_
        rintro e env'' s' ⟨⟨g1, o, g2⟩, g3⟩
        refine ⟨⟨g1, o, ?_⟩, g3⟩
        rw [g2]
        simp
      refine Out_cond _ _ _ _ _ _ _ rfl ?_ ?_
      · intro h
        have hne : (decV b p).1 ≠ 65533 := by
          intro e
          unfold decV at e
          simp [e] at h
        simp
        simp only [textBadV, if_pos hlt, if_pos hne]
        exact hnext _ (by simp [h0]) (by simp [h8])
      · intro h
        have heq : (decV b p).1 = 65533 := by
          simp at h
          unfold decV
          omega
        simp [h0, evSlcS, bnd, dec_spec, hp]
        refine Out_cond _ _ _ _ _ _ _ rfl ?_ ?_
        · intro h1
          simp at h1
          have h1' : (Lib.decodeGo ⟨(b.drop p).toArray⟩).2 = 1 := by omega
          have hv : textBadV b (f + 1) p = p := by simp [textBadV, hlt, heq, h1']
          simp [hv]
          exact ⟨_, rfl⟩
        · intro h1
          simp at h1
          have h1' : ¬ (Lib.decodeGo ⟨(b.drop p).toArray⟩).2 = 1 := by omega
          have hv : textBadV b (f + 1) p = textBadV b f (p + (decV b p).2) := by simp [textBadV, hlt, heq, h1']
          simp
          rw [hv]
          exact hnext _ (by simp [h0]) (by simp [h8])
    · simp [h0, h8, nxt_end b p id s hs hlt]
      refine Out_cond _ _ _ _ _ _ _ rfl (fun h => by cases h) (fun _ => ?_)
      simp [textBadV, hlt]
      exact ⟨.iter b p, by
        apply List.ext_getElem?
        intro j
        by_cases hj : id = j
        · subst hj; rw [List.getElem?_set_self (lt_of_get hs), hs]
        · rw [List.getElem?_set_ne hj]⟩

theorem textBad_spec (b : List UInt8) (hb : b.length ≤ 9223372036854775807) (s : St) : call G 59 [.str b] s = some (.int .i64 (textBadV b (b.length + 1) 0), s) := by
  refine call_out (F := af59) rfl rfl ?_
  simp [af59, af59b]
  refine (textBadLoop b hb s.obs.length (b.length + 1) 0 _ _ (by omega) (by omega) (by simp) (by simp) (by simp)).mono ?_
  rintro e env s' ⟨⟨hbf, o, hob⟩, ⟨h1, rfl⟩ | ⟨h1, rfl, h2⟩⟩
  · simp [h1, hbf, hob, List.set_append]
  · simp [h2, hbf, hob, List.set_append]

theorem textRight_spec (b : List UInt8) (hb : b.length ≤ 9223372036854775807) (s : St) : call G 36 [.str b] s = some (.bool (decide (textBadV b (b.length + 1) 0 < 0)), s) := by
  refine call_out (F := af36) rfl rfl ?_
  simp [af36, af36b, textBad_spec b hb]

/-! ### They are one -/
theorem get!_list (b : List UInt8) (p : Nat) : (⟨b.toArray⟩ : ByteArray).get! p = b.getD p 0 := by
  have := Lib.getD_get!' ⟨b.toArray⟩ p
  simpa using this.symm

theorem sizeV_dec (b : List UInt8) (p : Nat) (hp : p < b.length) : sizeV b p = if decV b p = (65533, 1) then (0, 0) else ((decV b p).2, (decV b p).1) := by
  unfold decV sizeV
  rw [Lib.decode_at]
  have hs : (⟨b.toArray⟩ : ByteArray).size = b.length := rfl
  rw [hs]
  simp only [get!_list, contV]
  have e1 := byte_lt (b.getD p 0)
  have e2 := byte_lt (b.getD (p + 1) 0)
  have e3 := byte_lt (b.getD (p + 2) 0)
  have e4 := byte_lt (b.getD (p + 3) 0)
  generalize (b.getD p 0).toNat = b0 at *
  generalize (b.getD (p + 1) 0).toNat = b1 at *
  generalize (b.getD (p + 1 + 1) 0).toNat = b2 at *
  generalize (b.getD (p + 3) 0).toNat = b3 at *
  generalize b.length = n at *
  have n1 : (1 < n - p) = ¬ (n < p + 2) := propext ⟨fun h => by omega, fun h => by omega⟩
  have n2 : (2 < n - p) = ¬ (n < p + 3) := propext ⟨fun h => by omega, fun h => by omega⟩
  have n3 : (3 < n - p) = ¬ (n < p + 4) := propext ⟨fun h => by omega, fun h => by omega⟩
  have d1 : (b1 / 64 = 2) = ¬ (b1 < 128 ∨ 192 ≤ b1) := propext ⟨fun h => by omega, fun h => by omega⟩
  have d2 : (b2 / 64 = 2) = ¬ (b2 < 128 ∨ 192 ≤ b2) := propext ⟨fun h => by omega, fun h => by omega⟩
  have d3 : (b3 / 64 = 2) = ¬ (b3 < 128 ∨ 192 ≤ b3) := propext ⟨fun h => by omega, fun h => by omega⟩
  by_cases c0 : b0 < 128
  · simp only [if_pos c0, Lib.decodeN]
    simp
    omega
  · simp only [if_neg c0, Lib.decodeN, n1, n2, n3, d1, d2, d3]
    by_cases k2 : 194 ≤ b0 ∧ b0 < 224
    · have q1 : b0 / 32 = 6 := by omega
      have q2 : ¬ b0 / 16 = 14 := by omega
      have q3 : ¬ b0 / 8 = 30 := by omega
      simp only [if_pos k2, q1, q2, q3, true_and, false_and, if_false]
      by_cases m2 : n < p + 2
      · simp [m2]
      · by_cases c1 : b1 < 128 ∨ 192 ≤ b1
        · simp [m2, c1]
        · have hv : b0 % 32 * 64 + b1 % 64 = (b0 - 192) * 64 + b1 - 128 := by omega
          have h1 : 128 ≤ (b0 - 192) * 64 + b1 - 128 := by omega
          have h2 : ¬ ((b0 - 192) * 64 + b1 - 128 < 128 ∨ 1114111 < (b0 - 192) * 64 + b1 - 128 ∨ 55296 ≤ (b0 - 192) * 64 + b1 - 128 ∧ (b0 - 192) * 64 + b1 - 128 < 57344) := by omega
          simp only [if_neg m2, if_neg c1, hv, ge_iff_le, if_pos h1, if_neg h2, m2, c1, not_false_eq_true, and_self, if_true, if_false]
          simp
          try omega
    · simp only [if_neg k2]
      by_cases k3 : 224 ≤ b0 ∧ b0 < 240
      · have q1 : ¬ b0 / 32 = 6 := by omega
        have q2 : b0 / 16 = 14 := by omega
        have q3 : ¬ b0 / 8 = 30 := by omega
        simp only [if_pos k3, q1, q2, q3, true_and, false_and, if_false]
        by_cases m2 : n < p + 3
        · simp [m2]
        · have m1 : ¬ n < p + 2 := by omega
          by_cases c1 : b1 < 128 ∨ 192 ≤ b1
          · simp [m2, c1]
          · by_cases c2 : b2 < 128 ∨ 192 ≤ b2
            · simp [m2, c1, c2]
            · have hv : b0 % 16 * 4096 + b1 % 64 * 64 + b2 % 64 = ((b0 - 224) * 64 + b1 - 128) * 64 + b2 - 128 := by omega
              simp only [if_neg m2, if_neg c1, if_neg c2, hv, m1, m2, c1, c2, not_false_eq_true, and_self, if_true, if_false]
              generalize ((b0 - 224) * 64 + b1 - 128) * 64 + b2 - 128 = w at *
              by_cases hw : w < 2048 ∨ 1114111 < w ∨ 55296 ≤ w ∧ w < 57344
              · have hc : ¬ (w ≥ 2048 ∧ (w < 55296 ∨ 57344 ≤ w ∧ w ≤ 1114111)) := by omega
                simp only [if_pos hw, if_neg hc, if_true]
              · have hc : w ≥ 2048 ∧ (w < 55296 ∨ 57344 ≤ w ∧ w ≤ 1114111) := by omega
                have hx : ¬ ((w, 3) : Nat × Nat) = (65533, 1) := by simp
                simp only [if_neg hw, if_pos hc, if_neg hx]
      · simp only [if_neg k3]
        by_cases k4 : 240 ≤ b0 ∧ b0 < 245
        · have q1 : ¬ b0 / 32 = 6 := by omega
          have q2 : ¬ b0 / 16 = 14 := by omega
          have q3 : b0 / 8 = 30 := by omega
          simp only [if_pos k4, q1, q2, q3, true_and, false_and, if_false]
          by_cases m2 : n < p + 4
          · simp [m2]
          · have m1 : ¬ n < p + 2 := by omega
            have m3 : ¬ n < p + 3 := by omega
            by_cases c1 : b1 < 128 ∨ 192 ≤ b1
            · simp [m2, c1]
            · by_cases c2 : b2 < 128 ∨ 192 ≤ b2
              · simp [m2, c1, c2]
              · by_cases c3 : b3 < 128 ∨ 192 ≤ b3
                · simp [m2, c1, c2, c3]
                · have hv : b0 % 8 * 262144 + b1 % 64 * 4096 + b2 % 64 * 64 + b3 % 64 = (((b0 - 240) * 64 + b1 - 128) * 64 + b2 - 128) * 64 + b3 - 128 := by omega
                  simp only [if_neg m2, if_neg c1, if_neg c2, if_neg c3, hv, m1, m2, m3, c1, c2, c3, not_false_eq_true, and_self, if_true, if_false]
                  generalize (((b0 - 240) * 64 + b1 - 128) * 64 + b2 - 128) * 64 + b3 - 128 = w at *
                  by_cases hw : w < 65536 ∨ 1114111 < w ∨ 55296 ≤ w ∧ w < 57344
                  · have hc : ¬ (w ≥ 65536 ∧ (w < 55296 ∨ 57344 ≤ w ∧ w ≤ 1114111)) := by omega
                    simp only [if_pos hw, if_neg hc, if_true]
                  · have hc : w ≥ 65536 ∧ (w < 55296 ∨ 57344 ≤ w ∧ w ≤ 1114111) := by omega
                    have hx : ¬ ((w, 4) : Nat × Nat) = (65533, 1) := by simp
                    simp only [if_neg hw, if_pos hc, if_neg hx]
        · simp only [if_neg k4]
          have q2 : ¬ b0 / 16 = 14 := by omega
          simp only [q2, false_and, if_false]
          have r1 : b0 / 32 = 6 → ¬ (b0 % 32 * 64 + b1 % 64 ≥ 128) := by omega
          have r2 : b0 / 8 = 30 → ¬ (b0 % 8 * 262144 + b1 % 64 * 4096 + b2 % 64 * 64 + b3 % 64 ≥ 65536 ∧
            (b0 % 8 * 262144 + b1 % 64 * 4096 + b2 % 64 * 64 + b3 % 64 < 55296 ∨ 57344 ≤ b0 % 8 * 262144 + b1 % 64 * 4096 + b2 % 64 * 64 + b3 % 64 ∧ b0 % 8 * 262144 + b1 % 64 * 4096 + b2 % 64 * 64 + b3 % 64 ≤ 1114111)) := by omega
          by_cases q1 : b0 / 32 = 6
          · have q3 : ¬ b0 / 8 = 30 := by omega
            simp only [q1, q3, if_neg (r1 q1), true_and, false_and, if_false, ite_self, if_true]
          · by_cases q3 : b0 / 8 = 30
            · simp only [q1, q3, if_neg (r2 q3), true_and, false_and, if_false, ite_self, if_true]
            · simp only [q1, q3, true_and, false_and, if_false, ite_self, if_true]

theorem decGo_drop (b : List UInt8) (p : Nat) (hp : p < b.length) : Lib.decodeGo ⟨(b.drop p).toArray⟩ = decV b p := by
  have hs : (⟨(b.drop p).toArray⟩ : ByteArray).size = b.length - p := by
    show (b.drop p).toArray.size = _
    simp
  have hs2 : (⟨b.toArray⟩ : ByteArray).size = b.length := rfl
  unfold Lib.decodeGo decV
  rw [if_neg (by omega), Lib.decode_at, Lib.decode_at, hs, hs2]
  simp only [get!_list, Nat.sub_zero]
  have hd : ∀ i, (b.drop p).getD i 0 = b.getD (p + i) 0 := fun i => by simp [List.getD, List.getElem?_drop]
  simp only [hd, Nat.add_zero, Nat.zero_add]

theorem textBad_bad (b : List UInt8) : ∀ f p, textBadV b f p = badV b f p
  | 0, _ => rfl
  | f + 1, p => by
    unfold textBadV badV
    split
    · rename_i hp
      have hd := decV_le b p hp
      rw [decGo_drop b p hp, sizeV_dec b p hp]
      by_cases h1 : (decV b p).1 = 65533
      · by_cases h2 : (decV b p).2 = 1
        · have e : decV b p = (65533, 1) := Prod.ext h1 h2
          simp [e]
        · have e : ¬ decV b p = (65533, 1) := fun q => h2 (by rw [q])
          have h3 : ¬ (decV b p).2 = 0 := by omega
          simp [h1, h2, e, h3, textBad_bad b f]
      · have e : ¬ decV b p = (65533, 1) := fun q => h1 (by rw [q])
        have h3 : ¬ (decV b p).2 = 0 := by omega
        simp [h1, e, h3, textBad_bad b f]
    · rfl

/-- A text is right: P1.1. -/
def rightV (b : List UInt8) : Bool := decide (badV b (b.length + 1) 0 = -1)

theorem textRight_spec' (b : List UInt8) (hb : b.length ≤ 9223372036854775807) (s : St) : call G 36 [.str b] s = some (.bool (rightV b), s) := by
  rw [textRight_spec b hb, textBad_bad]
  have := badV_ge b (b.length + 1) 0
  have e : decide (badV b (b.length + 1) 0 < 0) = rightV b := by
    unfold rightV
    by_cases h : badV b (b.length + 1) 0 = -1
    · simp [h]
    · have : ¬ badV b (b.length + 1) 0 < 0 := by omega
      simp [h, this]
  rw [e]

end Go.Proofs.YtjdppboomglenaaGreatDoor.Eng

/-
  Values that are right: the program's tree.Right. No condition.
-/
namespace Go.Proofs.YtjdppboomglenaaGreatDoor.Eng
open Go
set_option linter.unusedSimpArgs false
set_option linter.unusedVariables false

attribute [local simp] evC_reg evR_cons evR_nil runR_some regK_some evC_ret evC_skip evC_exit Out_seq Out_blk Out_some seqQ_norm seqQ_ret seqQ_exit blkQ_norm blkQ_ret blkQ_exit loopQ_norm loopQ_ret loopQ_exit
attribute [local simp] stepR evOp put upd_apply X.ev initEnv cells_agg cells_int cells_str cells_bool cells_sl cells_ptr cells_pnil cells_fn cells_map vc_length vc_take vc_plain vc_und toVs_plain toPs_plain toVs_und toPs_und takeN evBin isSh intBin strBin callK resOf packR fin V.plain plainL V.und undL scK kill dstsO dstsL dstsR ite_some ite_pair ite_vbool evUn evLoad evLen V.real finLoop_false quietK_false kill_none

/-- What a kind doesn't use is zero. -/
def unusedV : JV → Bool
  | .mk k n s l f => (decide (k = 1) || decide (k = 2) || decide (n = 0)) && (decide (k = 3) || decide (s = [])) && (decide (k = 4) || decide (l = [])) && (decide (k = 5) || decide (f = []))

theorem unused_spec (v : JV) (s : St) : call G 35 [toV v] s = some (.bool (unusedV v), s) := by
  obtain ⟨k, n, b, l, f⟩ := v
  refine call_out (F := af35) rfl rfl ?_
  simp [af35, af35b, vc, toVs_length, toPs_length, unusedV]

/-! ### slices.IndexFunc, ContainsFunc -/
/-- The first of which it holds. -/
def idxV {α : Type} (g : α → Bool) : List α → Nat → Int
  | [], _ => -1
  | x :: xs, i => if g x then i else idxV g xs (i + 1)

/-- A pair. -/
abbrev pv (p : List UInt8 × JV) : V := .agg (.str p.1 :: vc p.2)

theorem idxLoop42 (L : List JV) (hL : L.length ≤ 9223372036854775807) (f : FuncId) (cap : List V) (hcap : plainL cap = cap) (g : JV → Bool) :
    ∀ (m i : Nat) (env : Env) (s : St), L.length - i = m → i ≤ L.length → env 0 = .sl .no (toVs L) → env 1 = .fn (.func f) [] cap → env 7 = .int .i64 L.length → env 8 = .int .i64 i →
      (∀ x ∈ L, call G f (toV x :: cap) s = some (.bool (g x), s)) →
      Out (evC G (.loop false af60l0) env s) (fun e env' s' => s' = s ∧ ((idxV g (L.drop i) i = -1 ∧ e = .exit 0) ∨ (idxV g (L.drop i) i ≠ -1 ∧ e = .ret ∧ env' 4 = .int .i64 (idxV g (L.drop i) i)))) := by
  intro m
  induction m with
  | zero =>
    intro i env s hm hi h0 h1 h7 h8 hc
    have : i = L.length := by omega
    subst this
    refine Out_loop G false _ _ af60l0.eq_1 _ _ _ ?_
    simp [h7, h8]
    refine Out_cond _ _ _ _ _ _ _ rfl (fun h => by simp at h) (fun _ => ?_)
    simp [idxV]
  | succ m ihm =>
    intro i env s hm hi h0 h1 h7 h8 hc
    have hlt : i < L.length := by omega
    have hd := List.drop_eq_getElem_cons hlt
    refine Out_loop G false _ _ af60l0.eq_1 _ _ _ ?_
    simp [h7, h8]
    refine Out_cond _ _ _ _ _ _ _ rfl (fun _ => ?_) (fun h => by simp at h; omega)
    simp [h0, h1, h8, toVs_get, List.getElem?_eq_getElem hlt, hc L[i] (List.getElem_mem hlt)]
    refine Out_cond _ _ _ _ _ _ _ rfl (fun hg => ?_) (fun hg => ?_)
    · rw [hd, idxV, if_pos hg]
      simp
    · rw [hd, idxV, if_neg (by simp [hg])]
      have hw : IntKind.i64.wrap ((i : Int) + 1) = ((i + 1 : Nat) : Int) := by rw [wrap_in (by omega) (by omega)]; omega
      simp [h8, hw]
      exact ihm (i + 1) _ s (by omega) (by omega) (by simp [h0]) (by simp [h1]) (by simp [h7]) (by simp) hc

theorem idxV_neg {α : Type} (g : α → Bool) : ∀ (L : List α) (i : Nat), -1 ≤ idxV g L i ∧ (0 ≤ idxV g L i ↔ L.any g = true)
  | [], i => by simp [idxV]
  | x :: xs, i => by
    unfold idxV
    have := idxV_neg g xs (i + 1)
    split
    · rename_i h
      simp [h]
      try omega
    · rename_i h
      simp [h]
      simpa using this

theorem contains42 (L : List JV) (hL : L.length ≤ 9223372036854775807) (f : FuncId) (cap : List V) (hcap : plainL cap = cap) (g : JV → Bool) (s : St)
    (hc : ∀ x ∈ L, call G f (toV x :: cap) s = some (.bool (g x), s)) : call G 37 [.sl .no (toVs L), .fn (.func f) [] cap] s = some (.bool (L.any g), s) := by
  have h42 : call G 60 [.sl .no (toVs L), .fn (.func f) [] cap] s = some (.int .i64 (idxV g L 0), s) := by
    refine call_out (F := af60) rfl rfl ?_
    simp [af60, af60b, toVs_length]
    refine (idxLoop42 L hL f cap hcap g L.length 0 _ s (by omega) (by omega) (by simp) (by simp) (by simp) (by simp) hc).mono ?_
    rintro e env s' ⟨rfl, ⟨h1, rfl⟩ | ⟨h1, rfl, h2⟩⟩
    · rw [List.drop_zero] at h1
      simp [h1]
    · rw [List.drop_zero] at h2
      simp [h2]
  refine call_out (F := af37) rfl rfl ?_
  simp [af37, af37b, h42, hcap]
  have := idxV_neg g L 0
  by_cases h : L.any g = true
  · have h0 := this.2.2 h
    simp [h, h0]
  · have h0 : ¬ 0 ≤ idxV g L 0 := fun q => h (this.2.1 q)
    have h' : L.any g = false := by simpa using h
    simp [h', h0]

theorem idxLoop43 (L : List (List UInt8 × JV)) (hL : L.length ≤ 9223372036854775807) (f : FuncId) (cap : List V) (hcap : plainL cap = cap) (g : (List UInt8 × JV) → Bool) :
    ∀ (m i : Nat) (env : Env) (s : St), L.length - i = m → i ≤ L.length → env 0 = .sl .no (toPs L) → env 1 = .fn (.func f) [] cap → env 7 = .int .i64 L.length → env 8 = .int .i64 i →
      (∀ x ∈ L, call G f (pv x :: cap) s = some (.bool (g x), s)) →
      Out (evC G (.loop false af61l0) env s) (fun e env' s' => s' = s ∧ ((idxV g (L.drop i) i = -1 ∧ e = .exit 0) ∨ (idxV g (L.drop i) i ≠ -1 ∧ e = .ret ∧ env' 4 = .int .i64 (idxV g (L.drop i) i)))) := by
  intro m
  induction m with
  | zero =>
    intro i env s hm hi h0 h1 h7 h8 hc
    have : i = L.length := by omega
    subst this
    refine Out_loop G false _ _ af61l0.eq_1 _ _ _ ?_
    simp [h7, h8]
    refine Out_cond _ _ _ _ _ _ _ rfl (fun h => by simp at h) (fun _ => ?_)
    simp [idxV]
  | succ m ihm =>
    intro i env s hm hi h0 h1 h7 h8 hc
    have hlt : i < L.length := by omega
    have hd := List.drop_eq_getElem_cons hlt
    refine Out_loop G false _ _ af61l0.eq_1 _ _ _ ?_
    simp [h7, h8]
    refine Out_cond _ _ _ _ _ _ _ rfl (fun _ => ?_) (fun h => by simp at h; omega)
    simp [h0, h1, h8, toPs_get, List.getElem?_eq_getElem hlt, hc L[i] (List.getElem_mem hlt)]
    refine Out_cond _ _ _ _ _ _ _ rfl (fun hg => ?_) (fun hg => ?_)
    · rw [hd, idxV, if_pos hg]
      simp
    · rw [hd, idxV, if_neg (by simp [hg])]
      have hw : IntKind.i64.wrap ((i : Int) + 1) = ((i + 1 : Nat) : Int) := by rw [wrap_in (by omega) (by omega)]; omega
      simp [h8, hw]
      exact ihm (i + 1) _ s (by omega) (by omega) (by simp [h0]) (by simp [h1]) (by simp [h7]) (by simp) hc

theorem contains43 (L : List (List UInt8 × JV)) (hL : L.length ≤ 9223372036854775807) (f : FuncId) (cap : List V) (hcap : plainL cap = cap) (g : (List UInt8 × JV) → Bool) (s : St)
    (hc : ∀ x ∈ L, call G f (pv x :: cap) s = some (.bool (g x), s)) : call G 40 [.sl .no (toPs L), .fn (.func f) [] cap] s = some (.bool (L.any g), s) := by
  have h43 : call G 61 [.sl .no (toPs L), .fn (.func f) [] cap] s = some (.int .i64 (idxV g L 0), s) := by
    refine call_out (F := af61) rfl rfl ?_
    simp [af61, af61b, toPs_length]
    refine (idxLoop43 L hL f cap hcap g L.length 0 _ s (by omega) (by omega) (by simp) (by simp) (by simp) (by simp) hc).mono ?_
    rintro e env s' ⟨rfl, ⟨h1, rfl⟩ | ⟨h1, rfl, h2⟩⟩
    · rw [List.drop_zero] at h1
      simp [h1]
    · rw [List.drop_zero] at h2
      simp [h2]
  refine call_out (F := af40) rfl rfl ?_
  simp [af40, af40b, h43, hcap]
  have := idxV_neg g L 0
  by_cases h : L.any g = true
  · have h0 := this.2.2 h
    simp [h, h0]
  · have h0 : ¬ 0 ≤ idxV g L 0 := fun q => h (this.2.1 q)
    have h' : L.any g = false := by simpa using h
    simp [h', h0]

end Go.Proofs.YtjdppboomglenaaGreatDoor.Eng

/-
  Values that are right: keys, and tree.Right whole. No condition.
-/
namespace Go.Proofs.YtjdppboomglenaaGreatDoor.Eng
open Go
set_option linter.unusedSimpArgs false
set_option linter.unusedVariables false

attribute [local simp] evC_reg evR_cons evR_nil runR_some regK_some evC_ret evC_skip evC_exit Out_seq Out_blk Out_some seqQ_norm seqQ_ret seqQ_exit blkQ_norm blkQ_ret blkQ_exit loopQ_norm loopQ_ret loopQ_exit
attribute [local simp] stepR evOp put upd_apply X.ev initEnv cells_agg cells_int cells_str cells_bool cells_sl cells_ptr cells_pnil cells_fn cells_map vc_length vc_take vc_plain vc_und toVs_plain toPs_plain toVs_und toPs_und takeN evBin isSh intBin strBin callK resOf packR fin V.plain plainL V.und undL scK kill dstsO dstsL dstsR ite_some ite_pair ite_vbool evUn evLoad evLen V.real finLoop_false quietK_false kill_none

/-! ### Maps whose keys are texts -/
theorem find_cons (k : V) (e : V × V × Nat) (es : List (V × V × Nat)) : find k (e :: es) = match keyEq k e.1 with
    | some true => some (some (e.2.1, e.2.2))
    | some false => find k es
    | none => none := by rw [find]; rfl

theorem find_app_none {k : V} {e : V × V × Nat} : ∀ {es : List (V × V × Nat)}, find k es = some none → find k (es ++ [e]) = find k [e]
  | [], _ => rfl
  | x :: es, h => by
    rw [List.cons_append, find_cons]
    rw [find_cons] at h
    cases hq : keyEq k x.1 with
    | none => rw [hq] at h; cases h
    | some t =>
      rw [hq] at h
      cases t with
      | true => cases h
      | false => exact find_app_none h

theorem find_app_some {k : V} {e : V × V × Nat} {r : V × Nat} : ∀ {es : List (V × V × Nat)}, find k es = some (some r) → find k (es ++ [e]) = some (some r)
  | [], h => by simp [find] at h
  | x :: es, h => by
    rw [List.cons_append, find_cons]
    rw [find_cons] at h
    cases hq : keyEq k x.1 with
    | none => rw [hq] at h; cases h
    | some t =>
      rw [hq] at h
      cases t with
      | true => exact h
      | false => exact find_app_some h

/-- Entries: the keys that are there have 1. -/
structure Seen (es : List (V × V × Nat)) (ks : List (List UInt8)) : Prop where
  yes : ∀ k, k ∈ ks → ∃ b, find (.str k) es = some (some (.int .i64 1, b))
  no : ∀ k, k ∉ ks → find (.str k) es = some none

theorem Seen.nil : Seen [] [] := ⟨fun _ h => absurd h List.not_mem_nil, fun _ _ => rfl⟩

theorem Seen.push {es : List (V × V × Nat)} {ks : List (List UInt8)} (h : Seen es ks) {k : List UInt8} (hk : k ∉ ks) (c : Nat) : Seen (es ++ [(.str k, .int .i64 1, c)]) (ks ++ [k]) where
  yes k' hk' := by
    by_cases hm : k' ∈ ks
    · obtain ⟨b, hb⟩ := h.yes k' hm
      exact ⟨b, find_app_some hb⟩
    · have : k' = k := by
        rcases List.mem_append.1 hk' with q | q
        · exact absurd q hm
        · simpa using q
      subst this
      refine ⟨c, ?_⟩
      rw [find_app_none (h.no k' hm)]
      simp [find, keyEq]
  no k' hk' := by
    simp only [List.mem_append, List.mem_singleton, not_or] at hk'
    rw [find_app_none (h.no k' hk'.1)]
    simp [find, keyEq, hk'.2]

theorem find_set {k v : V} : ∀ {es : List (V × V × Nat)} {r : V × Nat}, find k es = some (some r) → find k (setKey k v es) = some (some (v, r.2))
  | [], r, h => by simp [find] at h
  | x :: es, r, h => by
    rw [find_cons] at h
    cases hq : keyEq k x.1 with
    | none => rw [hq] at h; cases h
    | some t =>
      rw [hq] at h
      unfold setKey
      cases t with
      | true =>
        cases h
        rw [if_pos hq, find_cons]
        simp [hq]
      | false =>
        rw [if_neg (by rw [hq]; simp), find_cons, hq]
        exact find_set h

/-- Keys that may be. -/
def keysV : List (List UInt8) → List (List UInt8 × JV) → Bool
  | _, [] => true
  | seen, p :: ps => if p.1 ∈ seen ∨ rightV p.1 = false then false else keysV (seen ++ [p.1]) ps

theorem keysLoop (base : List AObj) (bufs : List (Nat × Nat × TypeId)) (L : List (List UInt8 × JV)) (hL : L.length ≤ 9223372036854775807) (hk : ∀ p ∈ L, p.1.length ≤ 9223372036854775807) :
    ∀ (m i : Nat) (env : Env) (es : List (V × V × Nat)) (clock : Nat) (junk : List AObj) (ks : List (List UInt8)), L.length - i = m → i ≤ L.length → env 3 = .map base.length → env 7 = .sl .no (toPs L) → env 8 = .int .i64 L.length → env 9 = .int .i64 i → Seen es ks →
      Out (evC G (.loop false af39l0) env ⟨base ++ .map es clock :: junk, bufs⟩) (fun e env' s' => (∃ rest, s' = ⟨base ++ rest, bufs⟩) ∧ ((keysV ks (L.drop i) = true ∧ e = .exit 0) ∨ (keysV ks (L.drop i) = false ∧ e = .ret ∧ env' 2 = .bool false))) := by
  intro m
  induction m with
  | zero =>
    intro i env es clock junk ks hm hi h3 h7 h8 h9 hse
    have : i = L.length := by omega
    subst this
    refine Out_loop G false _ _ af39l0.eq_1 _ _ _ ?_
    simp [h8, h9]
    refine Out_cond _ _ _ _ _ _ _ rfl (fun h => by simp at h) (fun _ => ?_)
    simp [keysV]
  | succ m ihm =>
    intro i env es clock junk ks hm hi h3 h7 h8 h9 hse
    have hlt : i < L.length := by omega
    have hd := List.drop_eq_getElem_cons hlt
    refine Out_loop G false _ _ af39l0.eq_1 _ _ _ ?_
    simp [h8, h9]
    refine Out_cond _ _ _ _ _ _ _ rfl (fun _ => ?_) (fun h => by simp at h; omega)
    have hkey := hk L[i] (List.getElem_mem hlt)
    generalize hp : L[i] = p at *
    obtain ⟨key, ⟨kk, nn, ss, ll, ff⟩⟩ := p
    simp only at hkey
    by_cases hin : key ∈ ks
    · obtain ⟨bb, hb⟩ := hse.yes key hin
      have hset := find_set (v := .int .i64 2) hb
      have hw : IntKind.i64.wrap 2 = 2 := by decide
      simp [h3, h7, h9, toPs_get, List.getElem?_eq_getElem hlt, hp, evStore, putL, V.one, vc, evLookup, evLook, evMupd, keyOk, hb, hset, hw]
      refine Out_cond _ _ _ _ _ _ _ rfl (fun _ => ?_) (fun h => by cases h)
      rw [hd, keysV, if_pos (.inl hin)]
      simp
    · have hb := hse.no key hin
      have hw : IntKind.i64.wrap 1 = 1 := by decide
      have hpush := find_app_none (e := (.str key, .int .i64 1, clock)) hb
      simp [find, keyEq] at hpush
      simp [h3, h7, h9, toPs_get, List.getElem?_eq_getElem hlt, hp, evStore, putL, V.one, vc, evLookup, evLook, evMupd, keyOk, hb, hpush, hw, textRight_spec' key hkey]
      have hw2 : IntKind.i64.wrap ((i : Int) + 1) = ((i + 1 : Nat) : Int) := by rw [wrap_in (by omega) (by omega)]; omega
      refine Out_cond _ _ _ _ _ _ _ rfl (fun h => ?_) (fun h => ?_)
      · have hr : rightV key = false := by simpa using h
        rw [hd, keysV, if_pos (.inr hr)]
        simp
      · have hr : rightV key = true := by simpa using h
        have hn : ¬ (key ∈ ks ∨ rightV key = false) := by simp [hin, hr]
        rw [hd, keysV, if_neg hn]
        simp [h9, hw2]
        exact ihm (i + 1) _ _ _ _ (ks ++ [key]) (by omega) (by omega) (by simp [h3]) (by simp [h7]) (by simp [h8]) (by simp) (hse.push hin clock)

theorem keys_spec (L : List (List UInt8 × JV)) (hL : L.length ≤ 9223372036854775807) (hk : ∀ p ∈ L, p.1.length ≤ 9223372036854775807) (s : St) : call G 39 [.sl .no (toPs L)] s = some (.bool (keysV [] L), s) := by
  obtain ⟨obs, bufs⟩ := s
  refine call_out (F := af39) rfl rfl ?_
  simp [af39, af39b, toPs_length]
  refine (keysLoop obs bufs L hL hk L.length 0 _ [] 0 [] [] (by omega) (by omega) (by simp) (by simp) (by simp) (by simp) Seen.nil).mono ?_
  rintro e env s' ⟨⟨rest, rfl⟩, ⟨h1, rfl⟩ | ⟨h1, rfl, h2⟩⟩
  · rw [List.drop_zero] at h1
    simp [h1]
  · rw [List.drop_zero] at h1
    simp [h1, h2]

/-! ### tree.Right -/
/-! A value of so many levels is right. -/
mutual
def treeV : JV → Int → Bool
  | .mk k n s l f, d =>
    if d < 1 ∨ unusedV (.mk k n s l f) = false then false
    else if k = 0 then true
    else if k = 1 then decide (n = 0) || decide (n = 1)
    else if k = 2 then decide (-9007199254740991 ≤ n) && decide (n ≤ 9007199254740991)
    else if k = 3 then rightV s
    else if k = 4 then treeVs l (d - 1)
    else if k = 5 then keysV [] f && treePs f (d - 1)
    else false
def treeVs : List JV → Int → Bool
  | [], _ => true
  | v :: vs, d => treeV v d && treeVs vs d
def treePs : List (List UInt8 × JV) → Int → Bool
  | [], _ => true
  | p :: ps, d => treeV p.2 d && treePs ps d
end
theorem treeVs_any (l : List JV) (d : Int) : l.any (fun x => !treeV x d) = !treeVs l d := by
  induction l with
  | nil => rfl
  | cons x l ih => simp [treeVs, ih]
theorem treePs_any (l : List (List UInt8 × JV)) (d : Int) : l.any (fun x => !treeV x.2 d) = !treePs l d := by
  induction l with
  | nil => rfl
  | cons x l ih => simp [treePs, ih]

/-- The closure's cell. -/
def Clo (c : Nat) (s : St) : Prop := s.obs[c]? = some (.cells 67 [.fn (.func 34) [] [.ptr c 0]])

theorem Clo.app {c : Nat} {s : St} (h : Clo c s) (l : List AObj) : Clo c ⟨s.obs ++ l, s.bufs⟩ := by
  unfold Clo at *
  rw [List.getElem?_append_left (lt_of_get h)]
  exact h

theorem f26_spec (x : JV) (c e : Nat) (d : Int) (hd : -1000 ≤ d ∧ d ≤ 1000) (s : St) (hcl : Clo c s) (he : s.obs[e]? = some (.cells 3 [.int .i64 d]))
    (ih : ∀ s', Clo c s' → call G 34 [toV x, .int .i64 (d - 1), .ptr c 0] s' = some (.bool (treeV x (d - 1)), s')) :
    call G 38 [toV x, .ptr c 0, .ptr e 0] s = some (.bool (!treeV x (d - 1)), s) := by
  have h1 := hcl.app [.cells 26 (vc x)]
  have h2 : (s.obs ++ [AObj.cells 26 (vc x)])[e]? = some (.cells 3 [.int .i64 d]) := by
    rw [List.getElem?_append_left (lt_of_get he)]; exact he
  have h3 : (s.obs ++ [AObj.cells 26 (vc x)])[c]? = some (.cells 67 [.fn (.func 34) [] [.ptr c 0]]) := h1
  have hw : IntKind.i64.wrap (d - 1) = d - 1 := wrap_in (by omega) (by omega)
  refine call_out (F := af38) rfl rfl ?_
  simp [af38, af38b, h2, h3, hw, ih _ h1]

theorem f29_spec (x : List UInt8 × JV) (c e : Nat) (d : Int) (hd : -1000 ≤ d ∧ d ≤ 1000) (s : St) (hcl : Clo c s) (he : s.obs[e]? = some (.cells 3 [.int .i64 d]))
    (ih : ∀ s', Clo c s' → call G 34 [toV x.2, .int .i64 (d - 1), .ptr c 0] s' = some (.bool (treeV x.2 (d - 1)), s')) :
    call G 41 [pv x, .ptr c 0, .ptr e 0] s = some (.bool (!treeV x.2 (d - 1)), s) := by
  have h1 := hcl.app [.cells 49 (.str x.1 :: vc x.2)]
  have h2 : (s.obs ++ [AObj.cells 49 (.str x.1 :: vc x.2)])[e]? = some (.cells 3 [.int .i64 d]) := by
    rw [List.getElem?_append_left (lt_of_get he)]; exact he
  have h3 : (s.obs ++ [AObj.cells 49 (.str x.1 :: vc x.2)])[c]? = some (.cells 67 [.fn (.func 34) [] [.ptr c 0]]) := h1
  have hw : IntKind.i64.wrap (d - 1) = d - 1 := wrap_in (by omega) (by omega)
  refine call_out (F := af41) rfl rfl ?_
  simp [af41, af41b, h2, h3, hw, ih _ h1]

theorem tree_spec : ∀ (v : JV), v.ok → ∀ (d : Int) (c : Nat) (s : St), -100 ≤ d → d ≤ 1000 → Clo c s → call G 34 [toV v, .int .i64 d, .ptr c 0] s = some (.bool (treeV v d), s)
  | .mk k nn b l f, hok, d, c, s, hd0, hd1, hcl => by
    obtain ⟨_, _, hb, hl, hf, hokl, hokf⟩ := hok
    have ihl : ∀ x ∈ l, ∀ (s : St), 1 ≤ d → Clo c s → call G 34 [toV x, .int .i64 (d - 1), .ptr c 0] s = some (.bool (treeV x (d - 1)), s) := fun x hx s h1 hc => tree_spec x (okVs_mem hokl x hx) (d - 1) c s (by omega) (by omega) hc
    have ihf : ∀ x ∈ f, ∀ (s : St), 1 ≤ d → Clo c s → call G 34 [toV x.2, .int .i64 (d - 1), .ptr c 0] s = some (.bool (treeV x.2 (d - 1)), s) := fun x hx s h1 hc => tree_spec x.2 (okPs_mem hokf x hx).2 (d - 1) c s (by omega) (by omega) hc
    have hun := unused_spec (.mk k nn b l f)
    simp only [toV, vc] at hun
    have hobj := hcl.app [.cells 26 (vc (.mk k nn b l f)), .cells 3 [.int .i64 d]]
    simp only [vc] at hobj
    refine call_out (F := af34) rfl rfl ?_
    simp [af34, af34b, vc, hun]
    refine Out_cond _ _ _ _ _ _ _ rfl (fun h => ?_) (fun h => ?_)
    · have h' : d < 1 ∨ unusedV (.mk k nn b l f) = false := by
        simp at h
        rcases h with h | h
        · exact .inl (by omega)
        · exact .inr h
      simp [treeV, h']
    · have h' : ¬ (d < 1 ∨ unusedV (.mk k nn b l f) = false) := by
        simp at h
        simp [h.2]
        omega
      have hd : 1 ≤ d := by omega
      have hcl2 : ({ obs := s.obs ++ [.cells 26 [.int .i64 k, .int .i64 nn, .str b, .sl .no (toVs l), .sl .no (toPs f)], .cells 3 [.int .i64 d]], bufs := s.bufs } : St).obs[s.obs.length + 1]? = some (.cells 3 [.int .i64 d]) := by simp
      simp
      refine Out_cond _ _ _ _ _ _ _ rfl (fun h0 => ?_) (fun h0 => ?_)
      · simp at h0
        have ht : treeV (.mk k nn b l f) d = true := by rw [treeV, if_neg h', if_pos h0]
        simp [ht]
      · simp at h0
        simp
        refine Out_cond _ _ _ _ _ _ _ rfl (fun h1 => ?_) (fun h1 => ?_)
        · simp at h1
          have ht : treeV (.mk k nn b l f) d = (decide (nn = 0) || decide (nn = 1)) := by rw [treeV, if_neg h', if_neg h0, if_pos h1]
          simp [ht]
        · simp at h1
          simp
          refine Out_cond _ _ _ _ _ _ _ rfl (fun h2 => ?_) (fun h2 => ?_)
          · simp at h2
            have ht : treeV (.mk k nn b l f) d = (decide (-9007199254740991 ≤ nn) && decide (nn ≤ 9007199254740991)) := by rw [treeV, if_neg h', if_neg h0, if_neg h1, if_pos h2]
            simp [ht]
          · simp at h2
            simp
            refine Out_cond _ _ _ _ _ _ _ rfl (fun h3 => ?_) (fun h3 => ?_)
            · simp at h3
              have ht : treeV (.mk k nn b l f) d = rightV b := by rw [treeV, if_neg h', if_neg h0, if_neg h1, if_neg h2, if_pos h3]
              simp [ht, textRight_spec' b hb]
            · simp at h3
              simp
              refine Out_cond _ _ _ _ _ _ _ rfl (fun h4 => ?_) (fun h4 => ?_)
              · simp at h4
                have ht : treeV (.mk k nn b l f) d = treeVs l (d - 1) := by rw [treeV, if_neg h', if_neg h0, if_neg h1, if_neg h2, if_neg h3, if_pos h4]
                have hcon := contains42 l hl 38 [.ptr c 0, .ptr (s.obs.length + 1) 0] rfl (fun x => !treeV x (d - 1)) _
                  (fun x hx => f26_spec x c (s.obs.length + 1) d ⟨by omega, by omega⟩ _ hobj hcl2 (fun s' hc => ihl x hx s' hd hc))
                rw [treeVs_any] at hcon
                simp [ht, hcon]
              · simp at h4
                simp
                refine Out_cond _ _ _ _ _ _ _ rfl (fun h5 => ?_) (fun h5 => ?_)
                · simp at h5
                  have ht : treeV (.mk k nn b l f) d = (keysV [] f && treePs f (d - 1)) := by rw [treeV, if_neg h', if_neg h0, if_neg h1, if_neg h2, if_neg h3, if_neg h4, if_pos h5]
                  have hcon := contains43 f hf 41 [.ptr c 0, .ptr (s.obs.length + 1) 0] rfl (fun x => !treeV x.2 (d - 1)) _
                    (fun x hx => f29_spec x c (s.obs.length + 1) d ⟨by omega, by omega⟩ _ hobj hcl2 (fun s' hc => ihf x hx s' hd hc))
                  rw [treePs_any] at hcon
                  have hkey := keys_spec f hf (fun p hp => (okPs_mem hokf p hp).1)
                  simp [ht, hcon, hkey]
                · simp at h5
                  have ht : treeV (.mk k nn b l f) d = false := by rw [treeV, if_neg h', if_neg h0, if_neg h1, if_neg h2, if_neg h3, if_neg h4, if_neg h5]
                  simp [ht]
termination_by v => SizeOf.sizeOf v
decreasing_by
  · have := List.sizeOf_lt_of_mem hx
    simp; omega
  · have := List.sizeOf_lt_of_mem hx
    obtain ⟨a, b⟩ := x
    simp at this ⊢; omega

theorem treeRight_spec (v : JV) (hok : v.ok) (s : St) : call G 17 [toV v] s = some (.bool (treeV v 12), s) := by
  have hcl : Clo (s.obs.length + 1) ⟨s.obs ++ [.cells 26 (vc v), .cells 67 [.fn (.func 34) [] [.ptr (s.obs.length + 1) 0]]], s.bufs⟩ := by
    unfold Clo; simp
  have h := tree_spec v hok 12 _ _ (by omega) (by omega) hcl
  refine call_out (F := af17) rfl rfl ?_
  simp [af17, af17b, evStore, putL, V.one, h]

end Go.Proofs.YtjdppboomglenaaGreatDoor.Eng

/-
  Values that are right, by the reference; that it is the program's. No condition.
-/
namespace Go.Proofs.YtjdppboomglenaaGreatDoor.Eng
open Go
set_option linter.unusedSimpArgs false
set_option linter.unusedVariables false

attribute [local simp] evC_reg evC_regD evR_cons evR_nil runR_some regK_some evC_ret evC_skip evC_exit Out_seq Out_blk Out_some seqQ_norm seqQ_ret seqQ_exit blkQ_norm blkQ_ret blkQ_exit loopQ_norm loopQ_ret loopQ_exit
attribute [local simp] stepR evOp put upd_apply X.ev initEnv cells_agg cells_int cells_str cells_bool cells_sl cells_ptr cells_pnil cells_fn cells_map vc_length vc_take vc_plain vc_und toVs_plain toPs_plain toVs_und toPs_und takeN evBin isSh intBin strBin callK resOf packR fin V.plain plainL V.und undL scK kill dstsO dstsL dstsR ite_some ite_pair ite_vbool evUn evLoad evLen V.real finLoop_false quietK_false kill_none

mutual
def refV : JV → Int → Bool
  | .mk k n s l f, d =>
    if d < 1 ∨ k < 0 ∨ 5 < k then false
    else if (k ≠ 1 ∧ k ≠ 2 ∧ n ≠ 0) ∨ (k ≠ 3 ∧ s ≠ []) ∨ (k ≠ 4 ∧ l ≠ []) ∨ (k ≠ 5 ∧ f ≠ []) then false
    else if (k = 1 ∧ n ≠ 0 ∧ n ≠ 1) ∨ 9007199254740991 < n ∨ n < -9007199254740991 ∨ rightV s = false then false
    else refVs l (d - 1) && refPs [] f (d - 1)
def refVs : List JV → Int → Bool
  | [], _ => true
  | v :: vs, d => refV v d && refVs vs d
def refPs : List (List UInt8) → List (List UInt8 × JV) → Int → Bool
  | _, [], _ => true
  | seen, p :: ps, d => rightV p.1 && refV p.2 d && !decide (p.1 ∈ seen) && refPs (seen ++ [p.1]) ps d
end

/-- The keys ahead. -/
def seenOf (L : List (List UInt8 × JV)) (i : Nat) : List (List UInt8) := (L.take i).map (·.1)

theorem rightV_nil : rightV [] = true := by simp [rightV, badV]

mutual
theorem ref_tree : ∀ (v : JV) (d : Int), refV v d = treeV v d
  | .mk k n s l f, d => by
    have hl := refVs_tree l (d - 1)
    have hf := refPs_tree f (d - 1) []
    have hu : unusedV (.mk k n s l f) = true ↔ ((k = 1 ∨ k = 2 ∨ n = 0) ∧ (k = 3 ∨ s = [])) ∧ (k = 4 ∨ l = []) ∧ (k = 5 ∨ f = []) := by
      simp [unusedV, or_assoc, and_assoc]
    rw [refV, treeV, hl, hf]
    by_cases hd : d < 1
    · simp [hd]
    by_cases hun : unusedV (.mk k n s l f) = true
    · have h2 : ¬ (d < 1 ∨ unusedV (.mk k n s l f) = false) := by simp [hd, hun]
      rw [if_neg h2]
      have hc := hu.1 hun
      have h3 : ¬ ((k ≠ 1 ∧ k ≠ 2 ∧ n ≠ 0) ∨ (k ≠ 3 ∧ s ≠ []) ∨ (k ≠ 4 ∧ l ≠ []) ∨ (k ≠ 5 ∧ f ≠ [])) := by grind
      by_cases hk : k < 0 ∨ 5 < k
      · have e : d < 1 ∨ k < 0 ∨ 5 < k := .inr hk
        rw [if_pos e, if_neg (by omega), if_neg (by omega), if_neg (by omega), if_neg (by omega), if_neg (by omega), if_neg (by omega)]
      · rw [if_neg (by omega), if_neg h3]
        have ens : k ≠ 3 → s = [] := by grind
        have enl : k ≠ 4 → l = [] := by grind
        have enf : k ≠ 5 → f = [] := by grind
        have enn : k ≠ 1 → k ≠ 2 → n = 0 := by grind
        rcases (show k = 0 ∨ k = 1 ∨ k = 2 ∨ k = 3 ∨ k = 4 ∨ k = 5 by omega) with h | h | h | h | h | h
        · subst h
          simp [ens, enl, enf, enn, rightV_nil, treeVs, treePs, keysV]
        · subst h
          simp [ens, enl, enf, rightV_nil, treeVs, treePs, keysV]
          grind
        · subst h
          simp [ens, enl, enf, rightV_nil, treeVs, treePs, keysV]
          grind
        · subst h
          simp [enl, enf, enn, treeVs, treePs, keysV]
        · subst h
          simp [ens, enf, enn, rightV_nil, treePs, keysV]
        · subst h
          simp [ens, enl, enn, rightV_nil, treeVs]
    · have h2 : d < 1 ∨ unusedV (.mk k n s l f) = false := .inr (by simpa using hun)
      rw [if_pos h2]
      have h3 : (k ≠ 1 ∧ k ≠ 2 ∧ n ≠ 0) ∨ (k ≠ 3 ∧ s ≠ []) ∨ (k ≠ 4 ∧ l ≠ []) ∨ (k ≠ 5 ∧ f ≠ []) := by grind
      rw [if_pos h3]
      simp
theorem refVs_tree : ∀ (l : List JV) (d : Int), refVs l d = treeVs l d
  | [], d => rfl
  | v :: vs, d => by rw [refVs, treeVs, ref_tree v d, refVs_tree vs d]
theorem refPs_tree : ∀ (l : List (List UInt8 × JV)) (d : Int) (seen : List (List UInt8)), refPs seen l d = (keysV seen l && treePs l d)
  | [], d, seen => by simp [refPs, keysV, treePs]
  | p :: ps, d, seen => by
    rw [refPs, keysV, treePs, ref_tree p.2 d, refPs_tree ps d (seen ++ [p.1])]
    by_cases h1 : p.1 ∈ seen
    · simp [h1]
    · by_cases h2 : rightV p.1 = true
      · simp [h1, h2]
        cases treeV p.2 d <;> cases keysV (seen ++ [p.1]) ps <;> cases treePs ps d <;> rfl
      · simp [h1, h2]
end

end Go.Proofs.YtjdppboomglenaaGreatDoor.Eng

/-
  strings.Builder. No condition.
-/
namespace Go.Proofs.YtjdppboomglenaaGreatDoor.Eng
open Go
set_option linter.unusedSimpArgs false
set_option linter.unusedVariables false

attribute [local simp] evC_reg evC_regD evR_cons evR_nil runR_some regK_some evC_ret evC_skip evC_exit Out_seq Out_blk Out_some seqQ_norm seqQ_ret seqQ_exit blkQ_norm blkQ_ret blkQ_exit loopQ_norm loopQ_ret loopQ_exit
attribute [local simp] stepR evOp put upd_apply X.ev initEnv cells_agg cells_int cells_str cells_bool cells_sl cells_ptr cells_pnil cells_fn cells_map vc_length vc_take vc_plain vc_und toVs_plain toPs_plain toVs_und toPs_und takeN evBin isSh intBin strBin callK resOf packR fin V.plain plainL V.und undL scK kill dstsO dstsL dstsR ite_some ite_pair ite_vbool evUn evLoad evLen V.real finLoop_false quietK_false kill_none

def bObj (o i : Nat) (bs : List UInt8) : AObj := .cells 53 [.ptr o 0, .sl (.buf i) (asBytes bs)]
/-- A builder, its buffer the last of all; behind what is there, ahead of other things. -/
def bst (obs tl : List AObj) (bufs : List (Nat × Nat × TypeId)) (bs : List UInt8) : St := ⟨obs ++ bObj obs.length bufs.length bs :: tl, bufs ++ [(bs.length, 1, 5)]⟩
def bst0 (obs tl : List AObj) (bufs : List (Nat × Nat × TypeId)) : St := ⟨obs ++ .cells 53 [.pnil, .sl .nil []] :: tl, bufs⟩
def bst1 (obs tl : List AObj) (bufs : List (Nat × Nat × TypeId)) : St := ⟨obs ++ .cells 53 [.ptr obs.length 0, .sl .nil []] :: tl, bufs⟩

theorem asBytes_length (b : List UInt8) : (asBytes b).length = b.length := by simp [asBytes]
theorem asBytes_app (a b : List UInt8) : asBytes (a ++ b) = asBytes a ++ asBytes b := by simp [asBytes]
theorem fits_bytes (b : List UInt8) : fits 1 (asBytes b) = true := by cases b <;> simp [asBytes, fits]

theorem fits_nil : fits 1 [] = true := rfl
theorem fits_one (k : IntKind) (n : Int) : fits 1 [.int k n] = true := rfl

theorem id_spec (v : V) (s : St) : call G 74 [v] s = some (v, s) := by rw [call_eq]; rfl

theorem copy_bst (obs tl : List AObj) (bufs : List (Nat × Nat × TypeId)) (bs : List UInt8) : call G 62 [.ptr obs.length 0] (bst obs tl bufs bs) = some (.tup [], bst obs tl bufs bs) := by
  refine call_out (F := af62) rfl rfl ?_
  simp [af62, af62b, bst, bObj, evEqp]
  refine Out_cond _ _ _ _ _ _ _ rfl (fun h => by cases h) (fun _ => ?_)
  simp [evEqp]
  refine Out_cond _ _ _ _ _ _ _ rfl (fun h => by cases h) (fun _ => ?_)
  simp

theorem copy_bst0 (obs tl : List AObj) (bufs : List (Nat × Nat × TypeId)) : call G 62 [.ptr obs.length 0] (bst0 obs tl bufs) = some (.tup [], bst1 obs tl bufs) := by
  refine call_out (F := af62) rfl rfl ?_
  simp [af62, af62b, bst0, bst1, evEqp]
  refine Out_cond _ _ _ _ _ _ _ rfl (fun _ => ?_) (fun h => by cases h)
  simp [id_spec, evStore, V.one, putL]

theorem write_bst (obs tl : List AObj) (bufs : List (Nat × Nat × TypeId)) (bs x : List UInt8) (hx : x ≠ []) (hr : bs.length + x.length ≤ 140737488355328) :
    call G 42 [.ptr obs.length 0, .str x] (bst obs tl bufs bs) = some (.tup [.int .i64 x.length, .nilI], bst obs tl bufs (bs ++ x)) := by
  have hroom : room = 140737488355328 := by decide
  have hx0 : ¬ x.length = 0 := by simpa using hx
  refine call_out (F := af42) rfl rfl ?_
  simp [af42, af42b, copy_bst]
  simp [bst, bObj, evApp, appSrc, asBytes_length, hx0, fits_bytes, hroom, hr, evStore, V.one, putL, asBytes_app, hx]

theorem write_bst0 (obs tl : List AObj) (bufs : List (Nat × Nat × TypeId)) (x : List UInt8) (hx : x ≠ []) (hr : x.length ≤ 140737488355328) :
    call G 42 [.ptr obs.length 0, .str x] (bst0 obs tl bufs) = some (.tup [.int .i64 x.length, .nilI], bst obs tl bufs x) := by
  have hroom : room = 140737488355328 := by decide
  have hx0 : ¬ x.length = 0 := by simpa using hx
  refine call_out (F := af42) rfl rfl ?_
  simp [af42, af42b, copy_bst0]
  simp [bst, bst1, bObj, evApp, appSrc, asBytes_length, hx0, fits_bytes, hroom, hr, evStore, V.one, putL, asBytes_app, hx, fits_nil]

theorem one_byte (x : UInt8) : asBytes [x] = [.int .u8 x.toNat] := rfl

theorem byte_bst (obs tl : List AObj) (bufs : List (Nat × Nat × TypeId)) (bs : List UInt8) (x : UInt8) (hr : bs.length + 1 ≤ 140737488355328) :
    call G 46 [.ptr obs.length 0, .int .u8 x.toNat] (bst obs tl bufs bs) = some (.nilI, bst obs tl bufs (bs ++ [x])) := by
  have hroom : room = 140737488355328 := by decide
  refine call_out (F := af46) rfl rfl ?_
  simp [af46, af46b, copy_bst]
  simp [bst, bObj, hroom, hr, evApp, appSrc, asBytes_length, fits_bytes, evStore, V.one, putL, asBytes_app, one_byte, fillS, fits_nil, fits_one]

theorem byte_bst0 (obs tl : List AObj) (bufs : List (Nat × Nat × TypeId)) (x : UInt8) :
    call G 46 [.ptr obs.length 0, .int .u8 x.toNat] (bst0 obs tl bufs) = some (.nilI, bst obs tl bufs [x]) := by
  have hroom : room = 140737488355328 := by decide
  refine call_out (F := af46) rfl rfl ?_
  simp [af46, af46b, copy_bst0]
  simp [bst, bst1, bObj, hroom, evApp, appSrc, asBytes_length, fits_bytes, evStore, V.one, putL, asBytes_app, one_byte, fillS, fits_nil, fits_one]

theorem bytesOf_as : ∀ b : List UInt8, bytesOf (asBytes b) = some b
  | [] => rfl
  | x :: b => by
    have h := bytesOf_as b
    have hx := byte_lt x
    simp only [asBytes, List.map_cons] at h ⊢
    unfold bytesOf
    rw [if_pos (by omega), h]
    simp

theorem fin_same (s : St) (r : V) (h : r.plain.und s.obs.length 0 = true) : fin false s s r = (r.plain, s) := by
  unfold fin
  rw [if_neg (by simp), if_pos ⟨List.take_length, h⟩, List.take_length]

theorem string_bst (obs tl : List AObj) (bufs : List (Nat × Nat × TypeId)) (bs : List UInt8) (hb : bs ≠ []) (hr : bs.length ≤ 140737488355328) : call G 19 [.ptr obs.length 0] (bst obs tl bufs bs) = some (.str bs, bst obs tl bufs bs) := by
  have hroom : room = 140737488355328 := by decide
  refine call_out (F := af19) rfl rfl ?_
  simp [-fin, pendF, af19, af19b, bst, bObj, hroom, hr, asBytes_length, hb, bytesOf_as]
  exact fin_same _ _ rfl

end Go.Proofs.YtjdppboomglenaaGreatDoor.Eng

/-
  utf8.AppendRune, (*strings.Builder).WriteRune. No condition.
-/
namespace Go.Proofs.YtjdppboomglenaaGreatDoor.Eng
open Go
set_option linter.unusedSimpArgs false
set_option linter.unusedVariables false

attribute [local simp] evC_reg evC_regD evR_cons evR_nil runR_some regK_some evC_ret evC_skip evC_exit Out_seq Out_blk Out_some seqQ_norm seqQ_ret seqQ_exit blkQ_norm blkQ_ret blkQ_exit loopQ_norm loopQ_ret loopQ_exit
attribute [local simp] stepR evOp put upd_apply X.ev initEnv cells_agg cells_int cells_str cells_bool cells_sl cells_ptr cells_pnil cells_fn cells_map vc_length vc_take vc_plain vc_und toVs_plain toPs_plain toVs_und toPs_und takeN evBin isSh intBin strBin callK resOf packR fin V.plain plainL V.und undL scK kill dstsO dstsL dstsR ite_some ite_pair ite_vbool evUn evLoad evLen V.real finLoop_false quietK_false kill_none

theorem wrapU8 {n : Int} (h0 : 0 ≤ n) : IntKind.u8.wrap n = n % 256 := by
  have e : (2 : Int) ^ IntKind.u8.bits = 256 := by decide
  have e'' : IntKind.u8.signed = false := by decide
  unfold IntKind.wrap
  simp only [e, e'', Bool.false_and, Bool.false_eq_true, if_false]

theorem wrapU32 {n : Int} (h0 : 0 ≤ n) (h1 : n < 4294967296) : IntKind.u32.wrap n = n := by
  have e : (2 : Int) ^ IntKind.u32.bits = 4294967296 := by decide
  have e'' : IntKind.u32.signed = false := by decide
  unfold IntKind.wrap
  simp only [e, e'', Bool.false_and, Bool.false_eq_true, if_false]
  omega

/-- A lead byte's bits, and a later byte's. -/
theorem or_192 : ∀ x : Fin 32, IntKind.u8.wrap ((BitVec.ofInt IntKind.u8.bits 192 ||| BitVec.ofInt IntKind.u8.bits (x.val : Int)).toNat : Int) = 192 + x.val := by decide
theorem or_224 : ∀ x : Fin 16, IntKind.u8.wrap ((BitVec.ofInt IntKind.u8.bits 224 ||| BitVec.ofInt IntKind.u8.bits (x.val : Int)).toNat : Int) = 224 + x.val := by decide
theorem or_240 : ∀ x : Fin 8, IntKind.u8.wrap ((BitVec.ofInt IntKind.u8.bits 240 ||| BitVec.ofInt IntKind.u8.bits (x.val : Int)).toNat : Int) = 240 + x.val := by decide
set_option maxRecDepth 10000 in
theorem or_128 : ∀ x : Fin 64, IntKind.u8.wrap ((BitVec.ofInt IntKind.u8.bits 128 ||| BitVec.ofInt IntKind.u8.bits (x.val : Int)).toNat : Int) = 128 + x.val := by decide
set_option maxRecDepth 100000 in
theorem and_63 : ∀ x : Fin 256, IntKind.u8.wrap ((BitVec.ofInt IntKind.u8.bits (x.val : Int) &&& BitVec.ofInt IntKind.u8.bits 63).toNat : Int) = ((x.val % 64 : Nat) : Int) := by decide

/-- Bits of bytes. -/
def orB (a b : Int) : Int := IntKind.u8.wrap (BitVec.ofInt IntKind.u8.bits a ||| BitVec.ofInt IntKind.u8.bits b).toNat
def andB (a b : Int) : Int := IntKind.u8.wrap (BitVec.ofInt IntKind.u8.bits a &&& BitVec.ofInt IntKind.u8.bits b).toNat
theorem iB_or (a b : Int) : intBin .or .u8 a b = some (.int .u8 (orB a b)) := rfl
theorem iB_and (a b : Int) : intBin .and .u8 a b = some (.int .u8 (andB a b)) := rfl
theorem iB_leq (k : IntKind) (a b : Int) : intBin .leq k a b = some (.bool (decide (a ≤ b))) := rfl
theorem iB_lss (k : IntKind) (a b : Int) : intBin .lss k a b = some (.bool (decide (a < b))) := rfl
theorem iB_gtr (k : IntKind) (a b : Int) : intBin .gtr k a b = some (.bool (decide (b < a))) := rfl

theorem or192 {x : Int} (h0 : 0 ≤ x) (h : x < 32) : orB 192 x = 192 + x := by
  have := or_192 ⟨x.toNat, by omega⟩
  simp only at this
  rw [show ((x.toNat : Nat) : Int) = x by omega] at this
  exact this
theorem or224 {x : Int} (h0 : 0 ≤ x) (h : x < 16) : orB 224 x = 224 + x := by
  have := or_224 ⟨x.toNat, by omega⟩
  simp only at this
  rw [show ((x.toNat : Nat) : Int) = x by omega] at this
  exact this
theorem or240 {x : Int} (h0 : 0 ≤ x) (h : x < 8) : orB 240 x = 240 + x := by
  have := or_240 ⟨x.toNat, by omega⟩
  simp only at this
  rw [show ((x.toNat : Nat) : Int) = x by omega] at this
  exact this
theorem or128 {x : Int} (h0 : 0 ≤ x) (h : x < 64) : orB 128 x = 128 + x := by
  have := or_128 ⟨x.toNat, by omega⟩
  simp only at this
  rw [show ((x.toNat : Nat) : Int) = x by omega] at this
  exact this
theorem and63 {x : Int} (h0 : 0 ≤ x) (h : x < 256) : andB x 63 = x % 64 := by
  have := and_63 ⟨x.toNat, by omega⟩
  simp only at this
  rw [show ((x.toNat : Nat) : Int) = x by omega] at this
  have e : ((x.toNat % 64 : Nat) : Int) = x % 64 := by omega
  rw [e] at this
  exact this

/-- A rune's bytes. -/
def encV (c : Nat) : List UInt8 :=
  if c < 128 then [UInt8.ofNat c]
  else if c < 2048 then [UInt8.ofNat (192 + c / 64), UInt8.ofNat (128 + c % 64)]
  else if c < 65536 then [UInt8.ofNat (224 + c / 4096), UInt8.ofNat (128 + c / 64 % 64), UInt8.ofNat (128 + c % 64)]
  else [UInt8.ofNat (240 + c / 262144), UInt8.ofNat (128 + c / 4096 % 64), UInt8.ofNat (128 + c / 64 % 64), UInt8.ofNat (128 + c % 64)]

theorem fits_int (k : IntKind) (n : Int) (r : List V) : fits 1 (.int k n :: r) = true := rfl

theorem ofNat_val {n : Nat} (h : n < 256) : ((UInt8.ofNat n).toNat : Int) = n := by
  rw [UInt8.toNat_ofNat']; omega

theorem app80_spec (obs : List AObj) (bufs : List (Nat × Nat × TypeId)) (bs : List UInt8) (c : Nat) (h0 : 128 ≤ c) (h1 : c ≤ 1114111) (h2 : c < 55296 ∨ 57344 ≤ c) (hr : bs.length + 4 ≤ 140737488355328) :
    call G 93 [.sl (.buf bufs.length) (asBytes bs), .int .i32 c] ⟨obs, bufs ++ [(bs.length, 1, 5)]⟩ =
      some (.sl (.buf bufs.length) (asBytes (bs ++ encV c)), ⟨obs, bufs ++ [((bs ++ encV c).length, 1, 5)]⟩) := by
  have hroom : room = 140737488355328 := by decide
  have w32 : IntKind.u32.wrap (c : Int) = c := wrapU32 (by omega) (by omega)
  have s6 : (c : Int).fdiv 64 = (c : Int) / 64 := Int.fdiv_eq_ediv_of_nonneg _ (by omega)
  have s12 : (c : Int).fdiv 4096 = (c : Int) / 4096 := Int.fdiv_eq_ediv_of_nonneg _ (by omega)
  have s18 : (c : Int).fdiv 262144 = (c : Int) / 262144 := Int.fdiv_eq_ediv_of_nonneg _ (by omega)
  have m6 : min 6 IntKind.i32.bits = 6 := by decide
  have m12 : min 12 IntKind.i32.bits = 12 := by decide
  have m18 : min 18 IntKind.i32.bits = 18 := by decide
  have lw0 : IntKind.u8.wrap (c : Int) = (c : Int) % 256 := wrapU8 (by omega)
  have lw6 : IntKind.u8.wrap ((c : Int) / 64) = (c : Int) / 64 % 256 := wrapU8 (by omega)
  have lw12 : IntKind.u8.wrap ((c : Int) / 4096) = (c : Int) / 4096 % 256 := wrapU8 (by omega)
  have lw18 : IntKind.u8.wrap ((c : Int) / 262144) = (c : Int) / 262144 % 256 := wrapU8 (by omega)
  have t0 : orB 128 (andB ((c : Int) % 256) 63) = 128 + (c : Int) % 64 := by rw [and63 (by omega) (by omega), or128 (by omega) (by omega)]; omega
  have t6 : orB 128 (andB ((c : Int) / 64 % 256) 63) = 128 + (c : Int) / 64 % 64 := by rw [and63 (by omega) (by omega), or128 (by omega) (by omega)]; omega
  have t12 : orB 128 (andB ((c : Int) / 4096 % 256) 63) = 128 + (c : Int) / 4096 % 64 := by rw [and63 (by omega) (by omega), or128 (by omega) (by omega)]; omega
  refine call_out (F := af93) rfl rfl ?_
  simp [-intBin, iB_leq, af93, af93b, w32]
  refine Out_cond _ _ _ _ _ _ _ rfl (fun h => ?_) (fun h => ?_)
  · have hc : c ≤ 2047 := by simp at h; omega
    have o1 : orB 192 ((c : Int) / 64 % 256) = 192 + (c : Int) / 64 := by rw [or192 (by omega) (by omega)]; omega
    have ev : encV c = [UInt8.ofNat (192 + c / 64), UInt8.ofNat (128 + c % 64)] := by simp [encV, show ¬ c < 128 by omega, show c < 2048 by omega]
    have v1 := ofNat_val (n := 192 + c / 64) (by omega)
    have v2 := ofNat_val (n := 128 + c % 64) (by omega)
    have eb : asBytes (bs ++ encV c) = asBytes bs ++ [.int .u8 (192 + (c : Int) / 64), .int .u8 (128 + (c : Int) % 64)] := by
      rw [asBytes_app, ev]
      simp only [asBytes, List.map_cons, List.map_nil, v1, v2]
      simp
    have hr' : bs.length + 2 ≤ 140737488355328 := by omega
    rw [eb, ev]
    simp [-intBin, iB_or, iB_and, shBin, m6, s6, lw0, lw6, o1, t0, fillS, V.one, evApp, appSrc, asBytes_length, fits_bytes, fits_int, hroom, hr']
  · have hc : ¬ c ≤ 2047 := by simp at h; omega
    have hA : ∀ (env : Env), env 0 = .sl (.buf bufs.length) (asBytes bs) → env 1 = .int .i32 c → env 5 = .int .u32 c → env 25 = .bool (decide (c ≤ 65535)) → True := fun _ _ _ _ _ => trivial
    simp [-intBin, iB_lss]
    refine Out_cond _ _ _ _ _ _ _ rfl (fun h3 => ?_) (fun h3 => ?_)
    · have hc3 : c < 55296 := by simp at h3; omega
      simp
      refine Out_cond _ _ _ _ _ _ _ rfl (fun _ => ?_) (fun h4 => by simp at h4; omega)
      have o1 : orB 224 ((c : Int) / 4096 % 256) = 224 + (c : Int) / 4096 := by rw [or224 (by omega) (by omega)]; omega
      have ev : encV c = [UInt8.ofNat (224 + c / 4096), UInt8.ofNat (128 + c / 64 % 64), UInt8.ofNat (128 + c % 64)] := by
        simp [encV, show ¬ c < 128 by omega, show ¬ c < 2048 by omega, show c < 65536 by omega]
      have v1 := ofNat_val (n := 224 + c / 4096) (by omega)
      have v2 := ofNat_val (n := 128 + c / 64 % 64) (by omega)
      have v3 := ofNat_val (n := 128 + c % 64) (by omega)
      have eb : asBytes (bs ++ encV c) = asBytes bs ++ [.int .u8 (224 + (c : Int) / 4096), .int .u8 (128 + (c : Int) / 64 % 64), .int .u8 (128 + (c : Int) % 64)] := by
        rw [asBytes_app, ev]
        simp only [asBytes, List.map_cons, List.map_nil, v1, v2, v3]
        simp
      have hr' : bs.length + 3 ≤ 140737488355328 := by omega
      rw [eb, ev]
      simp [-intBin, iB_or, iB_and, shBin, m6, m12, s6, s12, lw0, lw6, lw12, o1, t0, t6, fillS, V.one, evApp, appSrc, asBytes_length, fits_bytes, fits_int, hroom, hr']
    · have hc3 : ¬ c < 55296 := by simp at h3; omega
      simp [-intBin, iB_lss, iB_leq]
      refine Out_cond _ _ _ _ _ _ _ rfl (fun h4 => ?_) (fun h4 => ?_)
      · have hc4 : c ≤ 65535 := by simp at h4; omega
        have o1 : orB 224 ((c : Int) / 4096 % 256) = 224 + (c : Int) / 4096 := by rw [or224 (by omega) (by omega)]; omega
        have ev : encV c = [UInt8.ofNat (224 + c / 4096), UInt8.ofNat (128 + c / 64 % 64), UInt8.ofNat (128 + c % 64)] := by
          simp [encV, show ¬ c < 128 by omega, show ¬ c < 2048 by omega, show c < 65536 by omega]
        have v1 := ofNat_val (n := 224 + c / 4096) (by omega)
        have v2 := ofNat_val (n := 128 + c / 64 % 64) (by omega)
        have v3 := ofNat_val (n := 128 + c % 64) (by omega)
        have eb : asBytes (bs ++ encV c) = asBytes bs ++ [.int .u8 (224 + (c : Int) / 4096), .int .u8 (128 + (c : Int) / 64 % 64), .int .u8 (128 + (c : Int) % 64)] := by
          rw [asBytes_app, ev]
          simp only [asBytes, List.map_cons, List.map_nil, v1, v2, v3]
          simp
        have hr' : bs.length + 3 ≤ 140737488355328 := by omega
        rw [eb, ev]
        simp [-intBin, iB_or, iB_and, shBin, m6, m12, s6, s12, lw0, lw6, lw12, o1, t0, t6, fillS, V.one, evApp, appSrc, asBytes_length, fits_bytes, fits_int, hroom, hr']
      · have hc4 : ¬ c ≤ 65535 := by simp at h4; omega
        simp [-intBin, iB_leq, iB_gtr]
        refine Out_cond _ _ _ _ _ _ _ rfl (fun _ => ?_) (fun h5 => by simp at h5; omega)
        have o1 : orB 240 ((c : Int) / 262144 % 256) = 240 + (c : Int) / 262144 := by rw [or240 (by omega) (by omega)]; omega
        have ev : encV c = [UInt8.ofNat (240 + c / 262144), UInt8.ofNat (128 + c / 4096 % 64), UInt8.ofNat (128 + c / 64 % 64), UInt8.ofNat (128 + c % 64)] := by
          simp [encV, show ¬ c < 128 by omega, show ¬ c < 2048 by omega, show ¬ c < 65536 by omega]
        have v1 := ofNat_val (n := 240 + c / 262144) (by omega)
        have v2 := ofNat_val (n := 128 + c / 4096 % 64) (by omega)
        have v3 := ofNat_val (n := 128 + c / 64 % 64) (by omega)
        have v4 := ofNat_val (n := 128 + c % 64) (by omega)
        have eb : asBytes (bs ++ encV c) = asBytes bs ++ [.int .u8 (240 + (c : Int) / 262144), .int .u8 (128 + (c : Int) / 4096 % 64), .int .u8 (128 + (c : Int) / 64 % 64), .int .u8 (128 + (c : Int) % 64)] := by
          rw [asBytes_app, ev]
          simp only [asBytes, List.map_cons, List.map_nil, v1, v2, v3, v4]
          simp
        rw [eb, ev]
        simp [-intBin, iB_or, iB_and, shBin, m6, m12, m18, s6, s12, s18, lw0, lw6, lw12, lw18, o1, t0, t6, t12, fillS, V.one, evApp, appSrc, asBytes_length, fits_bytes, fits_int, hroom, hr]

/-- A rune that may be. -/
def runeOk (c : Nat) : Prop := c ≤ 1114111 ∧ (c < 55296 ∨ 57344 ≤ c)

theorem app65_spec (obs : List AObj) (bufs : List (Nat × Nat × TypeId)) (bs : List UInt8) (c : Nat) (hc : runeOk c) (hr : bs.length + 4 ≤ 140737488355328) :
    call G 79 [.sl (.buf bufs.length) (asBytes bs), .int .i32 c] ⟨obs, bufs ++ [(bs.length, 1, 5)]⟩ =
      some (.sl (.buf bufs.length) (asBytes (bs ++ encV c)), ⟨obs, bufs ++ [((bs ++ encV c).length, 1, 5)]⟩) := by
  obtain ⟨h1, h2⟩ := hc
  have w32 : IntKind.u32.wrap (c : Int) = c := wrapU32 (by omega) (by omega)
  refine call_out (F := af79) rfl rfl ?_
  simp [-intBin, iB_leq, af79, af79b, w32]
  refine Out_cond _ _ _ _ _ _ _ rfl (fun h => ?_) (fun h => ?_)
  · have hc : c < 128 := by simp at h; omega
    have lw0 : IntKind.u8.wrap (c : Int) = c := by rw [wrapU8 (by omega)]; omega
    have v1 := ofNat_val (n := c) (by omega)
    have ev : encV c = [UInt8.ofNat c] := by simp [encV, hc]
    have eb : asBytes (bs ++ encV c) = asBytes bs ++ [.int .u8 c] := by
      rw [asBytes_app, ev]
      simp only [asBytes, List.map_cons, List.map_nil, v1]
    rw [eb, ev]
    have hroom : room = 140737488355328 := by decide
    have hr1 : bs.length + 1 ≤ 140737488355328 := by omega
    simp [lw0, fillS, V.one, evApp, appSrc, asBytes_length, fits_bytes, fits_int, hroom, hr1]
  · have hc : 128 ≤ c := by simp at h; omega
    simp [app80_spec obs bufs bs c hc h1 h2 hr]

theorem encV_len (c : Nat) : 1 ≤ (encV c).length ∧ (encV c).length ≤ 4 := by
  unfold encV
  repeat' split
  all_goals simp

theorem rune_bst (obs tl : List AObj) (bufs : List (Nat × Nat × TypeId)) (bs : List UInt8) (c : Nat) (hc : runeOk c) (hr : bs.length + 4 ≤ 140737488355328) :
    call G 66 [.ptr obs.length 0, .int .i32 c] (bst obs tl bufs bs) = some (.tup [.int .i64 (encV c).length, .nilI], bst obs tl bufs (bs ++ encV c)) := by
  have hl := encV_len c
  have hw : IntKind.i64.wrap ((bs.length : Int) + (encV c).length - bs.length) = (encV c).length := by rw [wrap_in (by omega) (by omega)]; omega
  have h65 := fun o => app65_spec o bufs bs c hc hr
  refine call_out (F := af66) rfl rfl ?_
  simp [af66, af66b, copy_bst]
  simp [bst, bObj, asBytes_length]
  simp at h65
  simp [h65, evStore, V.one, putL, asBytes_length, hw]

end Go.Proofs.YtjdppboomglenaaGreatDoor.Eng

/-
  Texts in quotes. No condition.
-/
namespace Go.Proofs.YtjdppboomglenaaGreatDoor.Eng
open Go
set_option linter.unusedSimpArgs false
set_option linter.unusedVariables false

attribute [local simp] evC_reg evC_regD evR_cons evR_nil runR_some regK_some evC_ret evC_skip evC_exit Out_seq Out_blk Out_some seqQ_norm seqQ_ret seqQ_exit blkQ_norm blkQ_ret blkQ_exit loopQ_norm loopQ_ret loopQ_exit
attribute [local simp] stepR evOp put upd_apply X.ev initEnv cells_agg cells_int cells_str cells_bool cells_sl cells_ptr cells_pnil cells_fn cells_map vc_length vc_take vc_plain vc_und toVs_plain toPs_plain toVs_und toPs_und takeN evBin isSh intBin strBin callK resOf packR fin V.plain plainL V.und undL scK kill dstsO dstsL dstsR ite_some ite_pair ite_vbool evUn evLoad evLen V.real finLoop_false quietK_false kill_none

def hexL : List UInt8 := [48, 49, 50, 51, 52, 53, 54, 55, 56, 57, 97, 98, 99, 100, 101, 102]
def hexV (n : Nat) : List UInt8 := (hexL.take (n + 1)).drop n

/-- What stands for a rune; nothing: it does itself. -/
def escV (c : Nat) : List UInt8 :=
  if c = 34 then [92, 34] else if c = 92 then [92, 92] else if c = 8 then [92, 98] else if c = 12 then [92, 102] else if c = 10 then [92, 110] else if c = 13 then [92, 114] else if c = 9 then [92, 116]
  else if c < 32 then [92, 117, 48, 48] ++ hexV (c / 16) ++ hexV (c % 16) else []

def andI (a b : Int) : Int := IntKind.i32.wrap (BitVec.ofInt IntKind.i32.bits a &&& BitVec.ofInt IntKind.i32.bits b).toNat
theorem iB_and32 (a b : Int) : intBin .and .i32 a b = some (.int .i32 (andI a b)) := rfl
theorem iB_eql (k : IntKind) (a b : Int) : intBin .eql k a b = some (.bool (decide (a = b))) := rfl
theorem iB_neq (k : IntKind) (a b : Int) : intBin .neq k a b = some (.bool (!decide (a = b))) := rfl
theorem iB_add (k : IntKind) (a b : Int) : intBin .add k a b = some (.int k (k.wrap (a + b))) := rfl
set_option maxRecDepth 10000 in
theorem and15f : ∀ x : Fin 32, andI (x.val : Int) 15 = ((x.val % 16 : Nat) : Int) := by decide
theorem hexV_len : ∀ x : Fin 16, (hexV x.val).length = 1 := by decide

theorem hexs (k : IntKind) (y : Int) (n : Nat) (hn : y = n) (h : n < 16) : evSlcS (.str [48, 49, 50, 51, 52, 53, 54, 55, 56, 57, 97, 98, 99, 100, 101, 102]) (some (.int k y)) (some (.int k (y + 1))) = some (.str (hexV n)) := by
  subst hn
  have e : ((n : Int) + 1).toNat = n + 1 := by omega
  have e1 : (0 : Int) ≤ (n : Int) + 1 := by omega
  have e2 : n + 1 ≤ 16 := by omega
  simp [evSlcS, bnd, e, e1, e2, hexV, hexL]

theorem esc_spec (c : Nat) (hc : c ≤ 1114111) (s : St) : call G 65 [.int .i32 c] s = some (.str (escV c), s) := by
  have imax : i64max = 9223372036854775807 := rfl
  refine call_out (F := af65) rfl rfl ?_
  simp [-intBin, iB_eql, af65, af65b]
  refine Out_cond _ _ _ _ _ _ _ rfl (fun h => ?_) (fun h1 => ?_)
  · have hh : c = 34 := by simp at h; omega
    simp [escV, hh]
  have n1 : ¬ c = 34 := by simp at h1; omega
  simp [-intBin, iB_eql]
  refine Out_cond _ _ _ _ _ _ _ rfl (fun h => ?_) (fun h2 => ?_)
  · have hh : c = 92 := by simp at h; omega
    simp [escV, hh]
  have n2 : ¬ c = 92 := by simp at h2; omega
  simp [-intBin, iB_eql]
  refine Out_cond _ _ _ _ _ _ _ rfl (fun h => ?_) (fun h3 => ?_)
  · have hh : c = 8 := by simp at h; omega
    simp [escV, hh]
  have n3 : ¬ c = 8 := by simp at h3; omega
  simp [-intBin, iB_eql]
  refine Out_cond _ _ _ _ _ _ _ rfl (fun h => ?_) (fun h4 => ?_)
  · have hh : c = 12 := by simp at h; omega
    simp [escV, hh]
  have n4 : ¬ c = 12 := by simp at h4; omega
  simp [-intBin, iB_eql]
  refine Out_cond _ _ _ _ _ _ _ rfl (fun h => ?_) (fun h5 => ?_)
  · have hh : c = 10 := by simp at h; omega
    simp [escV, hh]
  have n5 : ¬ c = 10 := by simp at h5; omega
  simp [-intBin, iB_eql]
  refine Out_cond _ _ _ _ _ _ _ rfl (fun h => ?_) (fun h6 => ?_)
  · have hh : c = 13 := by simp at h; omega
    simp [escV, hh]
  have n6 : ¬ c = 13 := by simp at h6; omega
  simp [-intBin, iB_eql]
  refine Out_cond _ _ _ _ _ _ _ rfl (fun h => ?_) (fun h7 => ?_)
  · have hh : c = 9 := by simp at h; omega
    simp [escV, hh]
  have n7 : ¬ c = 9 := by simp at h7; omega
  simp [-intBin, iB_lss]
  refine Out_cond _ _ _ _ _ _ _ rfl (fun h => ?_) (fun h => ?_)
  · have hh : c < 32 := by simp at h; omega
    have s4 : (c : Int).fdiv 16 = (c : Int) / 16 := Int.fdiv_eq_ediv_of_nonneg _ (by omega)
    have m4 : min 4 IntKind.i32.bits = 4 := by decide
    have a15 : andI (c : Int) 15 = ((c % 16 : Nat) : Int) := and15f ⟨c, hh⟩
    have w1 : IntKind.i32.wrap ((c : Int) / 16 + 1) = (c : Int) / 16 + 1 := wrap32 (by omega) (by omega)
    have w2 : IntKind.i32.wrap ((c : Int) % 16 + 1) = (c : Int) % 16 + 1 := wrap32 (by omega) (by omega)
    have l1 : (hexV (c / 16)).length = 1 := hexV_len ⟨c / 16, by omega⟩
    have l2 : (hexV (c % 16)).length = 1 := hexV_len ⟨c % 16, by omega⟩
    have x1 := hexs .i32 ((c : Int) / 16) (c / 16) (by omega) (by omega)
    have x2 := hexs .i32 ((c : Int) % 16) (c % 16) (by omega) (by omega)
    simp [-intBin, -strBin, iB_and32, iB_add, shBin, m4, s4, a15, w1, w2, x1, x2]
    simp [-intBin, iB_and32, iB_add, a15, w2, x2, imax, l1, l2, escV, n1, n2, n3, n4, n5, n6, n7, hh]
  · have hh : ¬ c < 32 := by simp at h; omega
    simp [escV, n1, n2, n3, n4, n5, n6, n7, hh]

theorem decV_ok (b : List UInt8) (p : Nat) (hp : p < b.length) : runeOk (decV b p).1 := by
  unfold decV runeOk
  rw [Lib.decode_at]
  have hx := ((⟨b.toArray⟩ : ByteArray).get! p).toNat_lt
  generalize ((⟨b.toArray⟩ : ByteArray).get! p).toNat = b0 at *
  generalize ((⟨b.toArray⟩ : ByteArray).get! (p + 1)).toNat = b1
  generalize ((⟨b.toArray⟩ : ByteArray).get! (p + 2)).toNat = b2
  generalize ((⟨b.toArray⟩ : ByteArray).get! (p + 3)).toNat = b3
  unfold Lib.decodeN
  repeat' split
  all_goals (simp only; omega)

/-- What is written for a rune. -/
def outV (c : Nat) : List UInt8 := if escV c = [] then encV c else escV c
def quoteB (b : List UInt8) : Nat → Nat → List UInt8
  | 0, _ => []
  | f + 1, p => if p < b.length then outV (decV b p).1 ++ quoteB b f (p + (decV b p).2) else []

theorem escV_len (c : Nat) : (escV c).length ≤ 6 := by
  unfold escV
  split
  · simp
  split
  · simp
  split
  · simp
  split
  · simp
  split
  · simp
  split
  · simp
  split
  · simp
  split
  · have l1 : (hexV (c / 16)).length = 1 := hexV_len ⟨c / 16, by omega⟩
    have l2 : (hexV (c % 16)).length = 1 := hexV_len ⟨c % 16, by omega⟩
    simp [l1, l2]
  · simp
theorem outV_len (c : Nat) : (outV c).length ≤ 6 := by
  have h1 := escV_len c
  have h2 := encV_len c
  unfold outV
  split <;> omega

theorem set_iter (o : List AObj) (x y z : AObj) : (o ++ [x, y]).set (o.length + 1) z = o ++ [x, z] := by
  simp [List.set_append]

theorem quoteLoop (o : List AObj) (bufs : List (Nat × Nat × TypeId)) (b : List UInt8) (hb : b.length ≤ 1000000000) :
    ∀ (f p : Nat) (env : Env) (bs : List UInt8), p ≤ b.length → b.length < p + f → bs.length + 6 * (b.length - p) ≤ 100000000000 → env 4 = .ptr o.length 0 → env 13 = .itr (o.length + 1) →
      Out (evC G (.loop false af45l0) env (bst o [.iter b p] bufs bs)) (fun e env' s' => e = .exit 0 ∧ env' 4 = .ptr o.length 0 ∧ ∃ q, s' = bst o [.iter b q] bufs (bs ++ quoteB b f p)) := by
  intro f
  induction f with
  | zero => intro p env bs h1 h2; omega
  | succ f ih =>
    intro p env bs hp hf hl h4 h13
    refine Out_loop G false _ _ af45l0.eq_1 _ _ _ ?_
    have hs : (bst o [.iter b p] bufs bs).obs[o.length + 1]? = some (.iter b p) := by simp [bst]
    by_cases hlt : p < b.length
    · have hd := decV_le b p hlt
      have hok := decV_ok b p hlt
      have hn := nxt_at b p (o.length + 1) (bst o [.iter b p] bufs bs) hs hlt
      have hset : ({ (bst o [.iter b p] bufs bs) with obs := (bst o [.iter b p] bufs bs).obs.set (o.length + 1) (.iter b (p + (Utf8.decode ⟨b.toArray⟩ p).2)) } : St) = bst o [.iter b (p + (decV b p).2)] bufs bs := by
        simp [bst, set_iter, decV]
      rw [hset] at hn
      have hdec : (Utf8.decode ⟨b.toArray⟩ p).1 = (decV b p).1 := rfl
      rw [hdec] at hn
      have hol := outV_len (decV b p).1
      simp [h13, hn]
      refine Out_cond _ _ _ _ _ _ _ rfl (fun _ => ?_) (fun h => by cases h)
      simp [esc_spec _ hd.2.2]
      refine Out_cond _ _ _ _ _ _ _ rfl (fun h => ?_) (fun h => ?_)
      · have he : ¬ escV (decV b p).1 = [] := by simpa using h
        have ho : outV (decV b p).1 = escV (decV b p).1 := by simp [outV, he]
        have hq : quoteB b (f + 1) p = escV (decV b p).1 ++ quoteB b f (p + (decV b p).2) := by simp [quoteB, hlt, ho]
        rw [ho] at hol
        simp [h4, write_bst o _ bufs bs _ he (by omega)]
        refine (ih (p + (decV b p).2) _ (bs ++ escV (decV b p).1) (by omega) (by omega) (by simp; omega) (by simp [h4]) (by simp [h13])).mono ?_
        rintro e env' s' ⟨rfl, g1, q, rfl⟩
        exact ⟨rfl, g1, q, by rw [hq, List.append_assoc]⟩
      · have he : escV (decV b p).1 = [] := by simpa using h
        have ho : outV (decV b p).1 = encV (decV b p).1 := by simp [outV, he]
        have hq : quoteB b (f + 1) p = encV (decV b p).1 ++ quoteB b f (p + (decV b p).2) := by simp [quoteB, hlt, ho]
        rw [ho] at hol
        simp [h4, rune_bst o _ bufs bs _ hok (by omega)]
        refine (ih (p + (decV b p).2) _ (bs ++ encV (decV b p).1) (by omega) (by omega) (by simp; omega) (by simp [h4]) (by simp [h13])).mono ?_
        rintro e env' s' ⟨rfl, g1, q, rfl⟩
        exact ⟨rfl, g1, q, by rw [hq, List.append_assoc]⟩
    · have hn := nxt_end b p (o.length + 1) (bst o [.iter b p] bufs bs) hs hlt
      simp [h13, hn]
      refine Out_cond _ _ _ _ _ _ _ rfl (fun h => by cases h) (fun _ => ?_)
      simp [quoteB, hlt, h4]
      exact ⟨p, rfl⟩

theorem quoteB_len (b : List UInt8) : ∀ f p, (quoteB b f p).length ≤ 6 * (b.length - p)
  | 0, p => by simp [quoteB]
  | f + 1, p => by
    unfold quoteB
    split
    · rename_i hp
      have h1 := outV_len (decV b p).1
      have h2 := quoteB_len b f (p + (decV b p).2)
      have h3 := decV_le b p hp
      simp
      omega
    · simp

/-- A text in quotes. -/
def quoteV (b : List UInt8) : List UInt8 := 34 :: (quoteB b (b.length + 1) 0 ++ [34])

theorem fin_bst (o tl : List AObj) (bufs : List (Nat × Nat × TypeId)) (bs : List UInt8) (r : V) (h : r.plain.und o.length 0 = true) : fin false ⟨o, bufs⟩ (bst o tl bufs bs) r = (r.plain, ⟨o, bufs⟩) := by
  unfold fin
  rw [if_neg (by simp), if_pos ⟨by simp [bst], h⟩]
  simp [bst]

theorem quote_spec (b : List UInt8) (hb : b.length ≤ 1000000000) (s : St) : call G 45 [.str b] s =
    if rightV b = true then some (.tup [.str (quoteV b), .int .i64 0], s) else some (.tup [.str [], .int .i64 2], s) := by
  obtain ⟨o, bufs⟩ := s
  have hr := fun s => textRight_spec' b (by omega) s
  have hl := quoteB_len b (b.length + 1) 0
  by_cases hrv : rightV b = true
  · rw [if_pos hrv]
    refine call_out (F := af45) rfl rfl ?_
    simp [af45, af45b, hr]
    refine Out_cond _ _ _ _ _ _ _ rfl (fun h => by simp [hrv] at h) (fun _ => ?_)
    have h0 : ({ obs := o ++ [.cells 53 [.pnil, .sl .nil []]], bufs := bufs } : St) = bst0 o [] bufs := rfl
    have hb0 := byte_bst0 o [] bufs 34
    have e34 : ((34 : UInt8).toNat : Int) = 34 := by decide
    rw [e34] at hb0
    have hrng : ({ obs := (bst o [] bufs [34]).obs ++ [.iter b 0], bufs := (bst o [] bufs [34]).bufs } : St) = bst o [.iter b 0] bufs [34] := by simp [bst]
    have hlen : (bst o [] bufs [34]).obs.length = o.length + 1 := by simp [bst]
    simp [h0, hb0, hrng, hlen]
    refine (quoteLoop o bufs b hb (b.length + 1) 0 _ [34] (by omega) (by omega) (by simp; omega) (by simp) (by simp)).mono ?_
    rintro e env s' ⟨rfl, g4, q, rfl⟩
    have hb1 := byte_bst o [.iter b q] bufs ([34] ++ quoteB b (b.length + 1) 0) 34 (by simp; omega)
    rw [e34] at hb1
    have hs1 := string_bst o [.iter b q] bufs ([34] ++ quoteB b (b.length + 1) 0 ++ [34]) (by simp) (by simp; omega)
    simp only [List.cons_append, List.nil_append] at hb1 hs1 ⊢
    simp [-fin, g4, hb1, hs1, quoteV]
    refine Eq.trans (if_pos ⟨by simp [bst], rfl⟩) ?_
    simp [bst]
  · rw [if_neg hrv]
    refine call_out (F := af45) rfl rfl ?_
    simp [af45, af45b, hr]
    refine Out_cond _ _ _ _ _ _ _ rfl (fun _ => ?_) (fun h => by simp [hrv] at h)
    simp

end Go.Proofs.YtjdppboomglenaaGreatDoor.Eng

/-
  JSON, written by the program. No condition.
-/
namespace Go.Proofs.YtjdppboomglenaaGreatDoor.Eng
open Go
set_option linter.unusedSimpArgs false
set_option linter.unusedVariables false

attribute [local simp] evC_reg evC_regD evR_cons evR_nil runR_some regK_some evC_ret evC_skip evC_exit Out_seq Out_blk Out_some seqQ_norm seqQ_ret seqQ_exit blkQ_norm blkQ_ret blkQ_exit loopQ_norm loopQ_ret loopQ_exit
attribute [local simp] stepR evOp put upd_apply X.ev initEnv cells_agg cells_int cells_str cells_bool cells_sl cells_ptr cells_pnil cells_fn cells_map vc_length vc_take vc_plain vc_und toVs_plain toPs_plain toVs_und toPs_und takeN evBin isSh intBin strBin callK resOf packR fin V.plain plainL V.und undL scK kill dstsO dstsL dstsR ite_some ite_pair ite_vbool evUn evLoad evLen V.real finLoop_false quietK_false kill_none

def boolV (t : Bool) : List UInt8 := if t then [116, 114, 117, 101] else [102, 97, 108, 115, 101]

theorem fb45_spec (t : Bool) (s : St) : call G 63 [.bool t] s = some (.str (boolV t), s) := by
  refine call_out (F := af63) rfl rfl ?_
  simp [af63, af63b]
  refine Out_cond _ _ _ _ _ _ _ rfl (fun h => ?_) (fun h => ?_)
  · subst h; simp [boolV]
  · subst h; simp [boolV]

theorem fb31_spec (t : Bool) (s : St) : call G 43 [.bool t] s = some (.str (boolV t), s) := by
  refine call_out (F := af43) rfl rfl ?_
  simp [af43, af43b, fb45_spec]

theorem fi_spec (n : Int) (h0 : -9223372036854775808 ≤ n) (h1 : n ≤ 9223372036854775807) (s : St) : call G 44 [.int .i64 n, .int .i64 10] s = some (.str (Lib.itoa n), s) := by
  have hp : G.prim 44 = some primFmt := rfl
  rw [call_prim _ _ _ _ _ hp]
  simp only [primFmt]
  rw [if_pos ⟨h0, h1⟩]

/-- A call that has written into the builder, and made things of its own. -/
theorem fin_sub (o tl junk : List AObj) (bufs : List (Nat × Nat × TypeId)) (bs bs' : List UInt8) : fin false (bst o tl bufs bs) (bst o (tl ++ junk) bufs bs') (.tup []) = (.tup [], bst o tl bufs bs') := by
  have hund : (V.tup []).plain.und (bst o tl bufs bs).obs.length 0 = true := rfl
  have hlen : (bst o tl bufs bs).obs.length = o.length + 1 + tl.length := by simp [bst]; omega
  have htake : (bst o (tl ++ junk) bufs bs').obs.take (bst o tl bufs bs).obs.length = (bst o tl bufs bs').obs := by
    have : (bst o tl bufs bs).obs.length = (bst o tl bufs bs').obs.length := by simp [bst]
    rw [this]
    have e : (bst o (tl ++ junk) bufs bs').obs = (bst o tl bufs bs').obs ++ junk := by simp [bst]
    rw [e, List.take_left]
  unfold fin
  rw [if_neg (by simp)]
  split
  · rename_i h
    rw [htake] at h
    have hb : bs' = bs := by
      have h1 := h.1
      simp only [bst, List.append_cancel_left_eq, List.cons.injEq, and_true, bObj, AObj.cells.injEq, V.sl.injEq, true_and] at h1
      have h2 := congrArg bytesOf h1
      rw [bytesOf_as, bytesOf_as] at h2
      exact Option.some.inj h2
    subst hb
    simp [bst]
    exact List.take_of_length_le (by simp)
  · have hsame : SameOr (bst o tl bufs bs).obs.length (bst o (tl ++ junk) bufs bs').bufs.length (bst o tl bufs bs).obs (bst o (tl ++ junk) bufs bs').obs := by
      intro i hi
      rw [hlen] at hi
      rcases Nat.lt_trichotomy i o.length with h | h | h
      · left
        simp [bst, List.getElem?_append_left h]
      · right
        subst h
        intro x hx
        simp only [bst, bObj] at hx
        rw [List.getElem?_append_right (Nat.le_refl _), Nat.sub_self] at hx
        simp at hx
        subst hx
        simp [AObj.und, undL, V.und, bst]
        have hby : ∀ l : List UInt8, undL (o.length + (tl.length + 1)) (bufs.length + 1) (asBytes l) = true := by
          intro l
          induction l with
          | nil => rfl
          | cons x l ih =>
            have e : asBytes (x :: l) = .int .u8 x.toNat :: asBytes l := rfl
            rw [e]
            simp [undL, V.und, ih]
        have := hby bs'
        simp [this]
      · left
        simp only [bst]
        rw [List.getElem?_append_right (by omega), List.getElem?_append_right (by omega)]
        obtain ⟨j, hj⟩ : ∃ j, i - o.length = j + 1 := ⟨i - o.length - 1, by omega⟩
        rw [hj]
        simp only [List.getElem?_cons_succ]
        rw [List.getElem?_append_left (by omega)]
    rw [if_pos ⟨hsame, hund⟩, htake]
    rfl

theorem fin_sub0 (o tl junk : List AObj) (bufs : List (Nat × Nat × TypeId)) (bs' : List UInt8) : fin false (bst0 o tl bufs) (bst o (tl ++ junk) bufs bs') (.tup []) = (.tup [], bst o tl bufs bs') := by
  have hund : (V.tup []).plain.und (bst0 o tl bufs).obs.length 0 = true := rfl
  have hlen : (bst0 o tl bufs).obs.length = o.length + 1 + tl.length := by simp [bst0]; omega
  have htake : (bst o (tl ++ junk) bufs bs').obs.take (bst0 o tl bufs).obs.length = (bst o tl bufs bs').obs := by
    have : (bst0 o tl bufs).obs.length = (bst o tl bufs bs').obs.length := by simp [bst, bst0]
    rw [this]
    have e : (bst o (tl ++ junk) bufs bs').obs = (bst o tl bufs bs').obs ++ junk := by simp [bst]
    rw [e, List.take_left]
  unfold fin
  rw [if_neg (by simp)]
  split
  · rename_i h
    rw [htake] at h
    exfalso
    have h1 := h.1
    simp only [bst, bst0, List.append_cancel_left_eq, List.cons.injEq, and_true, bObj, AObj.cells.injEq, true_and] at h1
    exact absurd h1.1 (by simp)
  · have hsame : SameOr (bst0 o tl bufs).obs.length (bst o (tl ++ junk) bufs bs').bufs.length (bst0 o tl bufs).obs (bst o (tl ++ junk) bufs bs').obs := by
      intro i hi
      rw [hlen] at hi
      rcases Nat.lt_trichotomy i o.length with h | h | h
      · left
        simp [bst, bst0, List.getElem?_append_left h]
      · right
        subst h
        intro x hx
        simp only [bst, bObj] at hx
        rw [List.getElem?_append_right (Nat.le_refl _), Nat.sub_self] at hx
        simp at hx
        subst hx
        simp [AObj.und, undL, V.und, bst, bst0]
        have hby : ∀ l : List UInt8, undL (o.length + (tl.length + 1)) (bufs.length + 1) (asBytes l) = true := by
          intro l
          induction l with
          | nil => rfl
          | cons x l ih =>
            have e : asBytes (x :: l) = .int .u8 x.toNat :: asBytes l := rfl
            rw [e]
            simp [undL, V.und, ih]
        have := hby bs'
        simp [this]
      · left
        simp only [bst, bst0]
        rw [List.getElem?_append_right (by omega), List.getElem?_append_right (by omega)]
        obtain ⟨j, hj⟩ : ∃ j, i - o.length = j + 1 := ⟨i - o.length - 1, by omega⟩
        rw [hj]
        simp only [List.getElem?_cons_succ]
        rw [List.getElem?_append_left (by omega)]
    rw [if_pos ⟨hsame, hund⟩, htake]
    rfl

/-! ### The builder, fresh or written -/
def bsx (o tl : List AObj) (bufs : List (Nat × Nat × TypeId)) : Option (List UInt8) → St
  | none => bst0 o tl bufs
  | some bs => bst o tl bufs bs

theorem write_bsx (o tl : List AObj) (bufs : List (Nat × Nat × TypeId)) (x : Option (List UInt8)) (t : List UInt8) (ht : t ≠ []) (hr : (x.getD []).length + t.length ≤ 140737488355328) :
    call G 42 [.ptr o.length 0, .str t] (bsx o tl bufs x) = some (.tup [.int .i64 t.length, .nilI], bst o tl bufs (x.getD [] ++ t)) := by
  cases x with
  | none => exact write_bst0 o tl bufs t ht (by simpa using hr)
  | some bs => exact write_bst o tl bufs bs t ht hr

theorem byte_bsx (o tl : List AObj) (bufs : List (Nat × Nat × TypeId)) (x : Option (List UInt8)) (t : UInt8) (hr : (x.getD []).length + 1 ≤ 140737488355328) :
    call G 46 [.ptr o.length 0, .int .u8 t.toNat] (bsx o tl bufs x) = some (.nilI, bst o tl bufs (x.getD [] ++ [t])) := by
  cases x with
  | none => exact byte_bst0 o tl bufs t
  | some bs => exact byte_bst o tl bufs bs t hr

/-! JSON of a right value. -/
mutual
def encJ : JV → List UInt8
  | .mk k n s l f =>
    if k = 0 then [110, 117, 108, 108]
    else if k = 1 then boolV (decide (n = 1))
    else if k = 2 then Lib.itoa n
    else if k = 3 then quoteV s
    else if k = 4 then 91 :: (encVs l 0 ++ [93])
    else if k = 5 then 123 :: (encPs f 0 ++ [125])
    else []
def encVs : List JV → Nat → List UInt8
  | [], _ => []
  | v :: vs, i => (if 0 < i then [44] else []) ++ encJ v ++ encVs vs (i + 1)
def encPs : List (List UInt8 × JV) → Nat → List UInt8
  | [], _ => []
  | p :: ps, i => (if 0 < i then [44] else []) ++ quoteV p.1 ++ [58] ++ encJ p.2 ++ encPs ps (i + 1)
end

theorem fin_bsx (o tl junk : List AObj) (bufs : List (Nat × Nat × TypeId)) (x : Option (List UInt8)) (bs' : List UInt8) : fin false (bsx o tl bufs x) (bst o (tl ++ junk) bufs bs') (.tup []) = (.tup [], bst o tl bufs bs') := by
  cases x with
  | none => exact fin_sub0 o tl junk bufs bs'
  | some bs => exact fin_sub o tl junk bufs bs bs'

theorem bsx_app (o tl l : List AObj) (bufs : List (Nat × Nat × TypeId)) (x : Option (List UInt8)) : ({ obs := (bsx o tl bufs x).obs ++ l, bufs := (bsx o tl bufs x).bufs } : St) = bsx o (tl ++ l) bufs x := by
  cases x <;> simp [bsx, bst, bst0]
theorem bst_app (o tl l : List AObj) (bufs : List (Nat × Nat × TypeId)) (bs : List UInt8) : ({ obs := (bst o tl bufs bs).obs ++ l, bufs := (bst o tl bufs bs).bufs } : St) = bst o (tl ++ l) bufs bs := by
  simp [bst]
theorem bsx_len (o tl : List AObj) (bufs : List (Nat × Nat × TypeId)) (x : Option (List UInt8)) : (bsx o tl bufs x).obs.length = o.length + 1 + tl.length := by
  cases x <;> simp [bsx, bst, bst0] <;> omega
theorem bst_len (o tl : List AObj) (bufs : List (Nat × Nat × TypeId)) (bs : List UInt8) : (bst o tl bufs bs).obs.length = o.length + 1 + tl.length := by
  simp [bst]; omega

end Go.Proofs.YtjdppboomglenaaGreatDoor.Eng

/-
  JSON, written by the program: encode. No condition.
-/
namespace Go.Proofs.YtjdppboomglenaaGreatDoor.Eng
open Go
set_option linter.unusedSimpArgs false
set_option linter.unusedVariables false

attribute [local simp] evC_reg evC_regD evR_cons evR_nil runR_some regK_some evC_ret evC_skip evC_exit Out_seq Out_blk Out_some seqQ_norm seqQ_ret seqQ_exit blkQ_norm blkQ_ret blkQ_exit loopQ_norm loopQ_ret loopQ_exit
attribute [local simp] stepR evOp put upd_apply X.ev initEnv cells_agg cells_int cells_str cells_bool cells_sl cells_ptr cells_pnil cells_fn cells_map vc_length vc_take vc_plain vc_und toVs_plain toPs_plain toVs_und toPs_und takeN evBin isSh intBin strBin callK resOf packR fin V.plain plainL V.und undL scK kill dstsO dstsL dstsR ite_some ite_pair ite_vbool evUn evLoad evLen V.real finLoop_false quietK_false kill_none

/-- What encode does for a value. -/
def EncOk (x : JV) : Prop := ∀ (o tl : List AObj) (bufs : List (Nat × Nat × TypeId)) (y : Option (List UInt8)), (y.getD []).length + (encJ x).length ≤ 100000000000 →
  call G 18 [.ptr o.length 0, toV x] (bsx o tl bufs y) = some (.tup [], bst o tl bufs (y.getD [] ++ encJ x))

theorem encLoop0 (o tl : List AObj) (bufs : List (Nat × Nat × TypeId)) (L : List JV) (hL : L.length ≤ 9223372036854775807) (ih : ∀ x ∈ L, EncOk x) :
    ∀ (m i : Nat) (env : Env) (junk : List AObj) (bs : List UInt8), L.length - i = m → i ≤ L.length → env 0 = .ptr o.length 0 → env 49 = .sl .no (toVs L) → env 50 = .int .i64 L.length → env 51 = .int .i64 i →
      bs.length + (encVs (L.drop i) i).length ≤ 100000000000 →
      Out (evC G (.loop false af18l0) env (bst o (tl ++ junk) bufs bs)) (fun e env' s' => e = .exit 1 ∧ env' 0 = .ptr o.length 0 ∧ ∃ junk', s' = bst o (tl ++ junk') bufs (bs ++ encVs (L.drop i) i)) := by
  intro m
  induction m with
  | zero =>
    intro i env junk bs hm hi h0 h49 h50 h51 hb
    have : i = L.length := by omega
    subst this
    refine Out_loop G false _ _ af18l0.eq_1 _ _ _ ?_
    simp [h50, h51]
    refine Out_cond _ _ _ _ _ _ _ rfl (fun h => by simp at h) (fun _ => ?_)
    simp [encVs, h0]
    exact ⟨junk, rfl⟩
  | succ m ihm =>
    intro i env junk bs hm hi h0 h49 h50 h51 hb
    have hlt : i < L.length := by omega
    have hdr := List.drop_eq_getElem_cons hlt
    have hwi : IntKind.i64.wrap ((i : Int) + 1) = ((i + 1 : Nat) : Int) := by rw [wrap_in (by omega) (by omega)]; omega
    have hx := ih L[i] (List.getElem_mem hlt)
    rw [hdr] at hb ⊢
    simp only [encVs] at hb ⊢
    refine Out_loop G false _ _ af18l0.eq_1 _ _ _ ?_
    simp [h50, h51]
    refine Out_cond _ _ _ _ _ _ _ rfl (fun _ => ?_) (fun h => by simp at h; omega)
    have hload : ∀ bs', (bst o (tl ++ (junk ++ [.cells 26 (vc L[i])])) bufs bs').obs[(bst o (tl ++ junk) bufs bs).obs.length]? = some (.cells 26 (vc L[i])) := by
      intro bs'
      simp only [bst]
      rw [List.getElem?_append_right (by simp)]
      simp
    have hcall : ∀ bs', bs'.length + (encJ L[i]).length ≤ 100000000000 → call G 18 [.ptr o.length 0, .agg (vc L[i])] (bst o (tl ++ (junk ++ [.cells 26 (vc L[i])])) bufs bs') = some (.tup [], bst o (tl ++ (junk ++ [.cells 26 (vc L[i])])) bufs (bs' ++ encJ L[i])) := by
      intro bs' hl
      exact hx o (tl ++ (junk ++ [.cells 26 (vc L[i])])) bufs (some bs') hl
    have h44 : call G 46 [.ptr o.length 0, .int .u8 44] (bst o (tl ++ (junk ++ [.cells 26 (vc L[i])])) bufs bs) = some (.nilI, bst o (tl ++ (junk ++ [.cells 26 (vc L[i])])) bufs (bs ++ [44])) := by
      have := byte_bst o (tl ++ (junk ++ [.cells 26 (vc L[i])])) bufs bs 44 (by omega)
      simpa using this
    have hstore : evStore 5 (.ptr (bst o (tl ++ junk) bufs bs).obs.length 0) (.agg (vc L[i])) ⟨(bst o (tl ++ junk) bufs bs).obs ++ [.cells 26 [.int .i64 0, .int .i64 0, .str [], .sl .nil [], .sl .nil []]], (bst o (tl ++ junk) bufs bs).bufs⟩ =
        some (.tup [], bst o (tl ++ (junk ++ [.cells 26 (vc L[i])])) bufs bs) := by
      cases L[i]
      simp [evStore, vc, V.one, putL, bst]
    simp [h49, h51, toVs_get, List.getElem?_eq_getElem hlt]
    rw [hstore]
    simp
    refine Out_cond _ _ _ _ _ _ _ rfl (fun hi0 => ?_) (fun hi0 => ?_)
    · have hi0' : 0 < i := by simpa using hi0
      simp only [if_pos hi0'] at hb ⊢
      simp at hb
      simp [h0, h44, hload]
      rw [hcall (bs ++ [44]) (by simp; omega)]
      simp [h51, hwi]
      refine Out.mono (ihm (i + 1) _ (junk ++ [.cells 26 (vc L[i])]) (bs ++ 44 :: encJ L[i]) ?_ ?_ ?_ ?_ ?_ ?_ ?_) ?_
      · omega
      · omega
      · simp [h0]
      · simp [h49]
      · simp [h50]
      · simp
      · simp; omega
      rintro e env' s' ⟨rfl, h, junk', rfl⟩
      exact ⟨rfl, h, junk', by simp⟩
    · have hi0' : ¬ 0 < i := by simpa using hi0
      simp only [if_neg hi0'] at hb ⊢
      simp at hb
      simp [h0, hload]
      rw [hcall bs (by omega)]
      simp [h51, hwi]
      refine Out.mono (ihm (i + 1) _ (junk ++ [.cells 26 (vc L[i])]) (bs ++ encJ L[i]) ?_ ?_ ?_ ?_ ?_ ?_ ?_) ?_
      · omega
      · omega
      · simp [h0]
      · simp [h49]
      · simp [h50]
      · simp
      · simp; omega
      rintro e env' s' ⟨rfl, h, junk', rfl⟩
      exact ⟨rfl, h, junk', by simp⟩

theorem quoteV_ne (b : List UInt8) : quoteV b ≠ [] := by simp [quoteV]

theorem encLoop1 (o tl : List AObj) (bufs : List (Nat × Nat × TypeId)) (L : List (List UInt8 × JV)) (hL : L.length ≤ 9223372036854775807) (hr : ∀ p ∈ L, rightV p.1 = true ∧ p.1.length ≤ 1000000000) (ih : ∀ p ∈ L, EncOk p.2) :
    ∀ (m i : Nat) (env : Env) (junk : List AObj) (bs : List UInt8), L.length - i = m → i ≤ L.length → env 0 = .ptr o.length 0 → env 71 = .sl .no (toPs L) → env 72 = .int .i64 L.length → env 73 = .int .i64 i →
      bs.length + (encPs (L.drop i) i).length ≤ 100000000000 →
      Out (evC G (.loop false af18l1) env (bst o (tl ++ junk) bufs bs)) (fun e env' s' => e = .exit 3 ∧ env' 0 = .ptr o.length 0 ∧ ∃ junk', s' = bst o (tl ++ junk') bufs (bs ++ encPs (L.drop i) i)) := by
  intro m
  induction m with
  | zero =>
    intro i env junk bs hm hi h0 h49 h50 h51 hb
    have : i = L.length := by omega
    subst this
    refine Out_loop G false _ _ af18l1.eq_1 _ _ _ ?_
    simp [h50, h51]
    refine Out_cond _ _ _ _ _ _ _ rfl (fun h => by simp at h) (fun _ => ?_)
    simp [encPs, h0]
    exact ⟨junk, rfl⟩
  | succ m ihm =>
    intro i env junk bs hm hi h0 h49 h50 h51 hb
    have hlt : i < L.length := by omega
    have hdr := List.drop_eq_getElem_cons hlt
    have hwi : IntKind.i64.wrap ((i : Int) + 1) = ((i + 1 : Nat) : Int) := by rw [wrap_in (by omega) (by omega)]; omega
    have hx := ih L[i] (List.getElem_mem hlt)
    obtain ⟨hr1, hr2⟩ := hr L[i] (List.getElem_mem hlt)
    rw [hdr] at hb ⊢
    simp only [encPs] at hb ⊢
    generalize hp : L[i] = p at *
    obtain ⟨key, x⟩ := p
    simp only at hb hx hr1 hr2 ⊢
    refine Out_loop G false _ _ af18l1.eq_1 _ _ _ ?_
    simp [h50, h51]
    refine Out_cond _ _ _ _ _ _ _ rfl (fun _ => ?_) (fun h => by simp at h; omega)
    have hq := quote_spec key hr2
    simp only [hr1, if_true] at hq
    have hload : ∀ bs', (bst o (tl ++ (junk ++ [.cells 49 (.str key :: vc x)])) bufs bs').obs[(bst o (tl ++ junk) bufs bs).obs.length]? = some (.cells 49 (.str key :: vc x)) := by
      intro bs'
      simp only [bst]
      rw [List.getElem?_append_right (by simp)]
      simp
    have hcall : ∀ bs', bs'.length + (encJ x).length ≤ 100000000000 → call G 18 [.ptr o.length 0, .agg (vc x)] (bst o (tl ++ (junk ++ [.cells 49 (.str key :: vc x)])) bufs bs') = some (.tup [], bst o (tl ++ (junk ++ [.cells 49 (.str key :: vc x)])) bufs (bs' ++ encJ x)) := by
      intro bs' hl
      exact hx o (tl ++ (junk ++ [.cells 49 (.str key :: vc x)])) bufs (some bs') hl
    have h44 : call G 46 [.ptr o.length 0, .int .u8 44] (bst o (tl ++ (junk ++ [.cells 49 (.str key :: vc x)])) bufs bs) = some (.nilI, bst o (tl ++ (junk ++ [.cells 49 (.str key :: vc x)])) bufs (bs ++ [44])) := by
      have := byte_bst o (tl ++ (junk ++ [.cells 49 (.str key :: vc x)])) bufs bs 44 (by omega)
      simpa using this
    have hwr : ∀ bs', bs'.length + (quoteV key).length ≤ 100000000000 → call G 42 [.ptr o.length 0, .str (quoteV key)] (bst o (tl ++ (junk ++ [.cells 49 (.str key :: vc x)])) bufs bs') = some (.tup [.int .i64 (quoteV key).length, .nilI], bst o (tl ++ (junk ++ [.cells 49 (.str key :: vc x)])) bufs (bs' ++ quoteV key)) :=
      fun bs' hl => write_bst o (tl ++ (junk ++ [.cells 49 (.str key :: vc x)])) bufs bs' (quoteV key) (quoteV_ne key) (by omega)
    have h58 : ∀ bs', bs'.length ≤ 100000000000 → call G 46 [.ptr o.length 0, .int .u8 58] (bst o (tl ++ (junk ++ [.cells 49 (.str key :: vc x)])) bufs bs') = some (.nilI, bst o (tl ++ (junk ++ [.cells 49 (.str key :: vc x)])) bufs (bs' ++ [58])) := by
      intro bs' hl
      have := byte_bst o (tl ++ (junk ++ [.cells 49 (.str key :: vc x)])) bufs bs' 58 (by omega)
      simpa using this
    have hstore : evStore 6 (.ptr (bst o (tl ++ junk) bufs bs).obs.length 0) (.agg (.str key :: vc x)) ⟨(bst o (tl ++ junk) bufs bs).obs ++ [.cells 49 [.str [], .int .i64 0, .int .i64 0, .str [], .sl .nil [], .sl .nil []]], (bst o (tl ++ junk) bufs bs).bufs⟩ =
        some (.tup [], bst o (tl ++ (junk ++ [.cells 49 (.str key :: vc x)])) bufs bs) := by
      cases x
      simp [evStore, vc, V.one, putL, bst]
    simp [h49, h51, toPs_get, List.getElem?_eq_getElem hlt, hp]
    rw [hstore]
    simp
    refine Out_cond _ _ _ _ _ _ _ rfl (fun hi0 => ?_) (fun hi0 => ?_)
    · have hi0' : 0 < i := by simpa using hi0
      simp only [if_pos hi0'] at hb ⊢
      simp at hb
      simp [h0, h44, hload, hq]
      rw [hwr _ (by simp; omega)]
      simp [h0]
      rw [h58 _ (by simp; omega)]
      simp [h0, hload]
      rw [hcall _ (by simp; omega)]
      simp [h51, hwi]
      refine Out.mono (ihm (i + 1) _ (junk ++ [.cells 49 (.str key :: vc x)]) (bs ++ 44 :: (quoteV key ++ 58 :: encJ x)) ?_ ?_ ?_ ?_ ?_ ?_ ?_) ?_
      · omega
      · omega
      · simp [h0]
      · simp [h49]
      · simp [h50]
      · simp
      · simp; omega
      rintro e env' s' ⟨rfl, h, junk', rfl⟩
      exact ⟨rfl, h, junk', by simp⟩
    · have hi0' : ¬ 0 < i := by simpa using hi0
      simp only [if_neg hi0'] at hb ⊢
      simp at hb
      simp [h0, hload, hq]
      rw [hwr _ (by omega)]
      simp [h0]
      rw [h58 _ (by simp; omega)]
      simp [h0, hload]
      rw [hcall _ (by simp; omega)]
      simp [h51, hwi]
      refine Out.mono (ihm (i + 1) _ (junk ++ [.cells 49 (.str key :: vc x)]) (bs ++ (quoteV key ++ 58 :: encJ x)) ?_ ?_ ?_ ?_ ?_ ?_ ?_) ?_
      · omega
      · omega
      · simp [h0]
      · simp [h49]
      · simp [h50]
      · simp
      · simp; omega
      rintro e env' s' ⟨rfl, h, junk', rfl⟩
      exact ⟨rfl, h, junk', by simp⟩

end Go.Proofs.YtjdppboomglenaaGreatDoor.Eng

/-
  JSON, written by the program: encode of a right value. No condition.
-/
namespace Go.Proofs.YtjdppboomglenaaGreatDoor.Eng
open Go
set_option linter.unusedSimpArgs false
set_option linter.unusedVariables false

attribute [local simp] evC_reg evC_regD evR_cons evR_nil runR_some regK_some evC_ret evC_skip evC_exit Out_seq Out_blk Out_some seqQ_norm seqQ_ret seqQ_exit blkQ_norm blkQ_ret blkQ_exit loopQ_norm loopQ_ret loopQ_exit
attribute [local simp] stepR evOp put upd_apply X.ev initEnv cells_agg cells_int cells_str cells_bool cells_sl cells_ptr cells_pnil cells_fn cells_map vc_length vc_take vc_plain vc_und toVs_plain toPs_plain toVs_und toPs_und takeN evBin isSh intBin strBin callK resOf packR V.plain plainL V.und undL scK kill dstsO dstsL dstsR ite_some ite_pair ite_vbool evUn evLoad evLen V.real finLoop_false quietK_false kill_none

/-! Strings of a size. -/
mutual
def smV : JV → Prop
  | .mk k n s l f => s.length ≤ 500 ∧ smVs l ∧ smPs f
def smVs : List JV → Prop
  | [] => True
  | v :: vs => smV v ∧ smVs vs
def smPs : List (List UInt8 × JV) → Prop
  | [] => True
  | p :: ps => p.1.length ≤ 500 ∧ smV p.2 ∧ smPs ps
end
theorem smVs_mem {l : List JV} (h : smVs l) : ∀ v ∈ l, smV v := by
  induction l with
  | nil => simp
  | cons x l ih => intro v hv; exact (List.mem_cons.1 hv).elim (fun e => e ▸ h.1) (fun hv => ih h.2 v hv)
theorem smPs_mem {l : List (List UInt8 × JV)} (h : smPs l) : ∀ p ∈ l, p.1.length ≤ 500 ∧ smV p.2 := by
  induction l with
  | nil => simp
  | cons x l ih => intro v hv; exact (List.mem_cons.1 hv).elim (fun e => e ▸ ⟨h.1, h.2.1⟩) (fun hv => ih h.2.2 v hv)
theorem treeVs_mem {l : List JV} {d : Int} (h : treeVs l d = true) : ∀ v ∈ l, treeV v d = true := by
  induction l with
  | nil => simp
  | cons x l ih => intro v hv; simp only [treeVs, Bool.and_eq_true] at h; exact (List.mem_cons.1 hv).elim (fun e => e ▸ h.1) (fun hv => ih h.2 v hv)
theorem treePs_mem {l : List (List UInt8 × JV)} {d : Int} (h : treePs l d = true) : ∀ p ∈ l, treeV p.2 d = true := by
  induction l with
  | nil => simp
  | cons x l ih => intro v hv; simp only [treePs, Bool.and_eq_true] at h; exact (List.mem_cons.1 hv).elim (fun e => e ▸ h.1) (fun hv => ih h.2 v hv)
theorem keysV_mem : ∀ {l : List (List UInt8 × JV)} {seen : List (List UInt8)}, keysV seen l = true → ∀ p ∈ l, rightV p.1 = true
  | [], _, _, p, h => by cases h
  | x :: l, seen, hk, p, h => by
    simp only [keysV] at hk
    split at hk
    · cases hk
    · rename_i hx
      rcases List.mem_cons.1 h with rfl | h
      · simp only [not_or] at hx
        simpa using hx.2
      · exact keysV_mem hk p h

theorem itoa_ne (n : Int) : Lib.itoa n ≠ [] := by
  unfold Lib.itoa
  split
  · simp
  · rw [Lib.decDigits]; split <;> simp

theorem enc_spec : ∀ (v : JV), v.ok → smV v → ∀ d : Int, treeV v d = true → EncOk v
  | .mk k nn b l f, hok, hsm, d, ht => by
    intro o tl bufs y hlen
    have hok' := hok
    obtain ⟨_, hnn, hb, hl, hf, hokl, hokf⟩ := hok
    obtain ⟨hsb, hsl, hsf⟩ := hsm
    have h1 : ¬ (d < 1 ∨ unusedV (.mk k nn b l f) = false) := by
      intro h
      rw [treeV, if_pos h] at ht
      cases ht
    rw [treeV, if_neg h1] at ht
    have ihl : treeVs l (d - 1) = true → ∀ x ∈ l, EncOk x := fun h x hx => enc_spec x (okVs_mem hokl x hx) (smVs_mem hsl x hx) (d - 1) (treeVs_mem h x hx)
    have ihf : treePs f (d - 1) = true → ∀ x ∈ f, EncOk x.2 := fun h x hx => enc_spec x.2 (okPs_mem hokf x hx).2 (smPs_mem hsf x hx).2 (d - 1) (treePs_mem h x hx)
    have hbox := bsx_app o tl [.cells 26 [.int .i64 k, .int .i64 nn, .str b, .sl .no (toVs l), .sl .no (toPs f)]] bufs y
    have hlen2 := bsx_len o tl bufs y
    have hobj : ∀ x, (bsx o (tl ++ [.cells 26 [.int .i64 k, .int .i64 nn, .str b, .sl .no (toVs l), .sl .no (toPs f)]]) bufs x).obs[o.length + 1 + tl.length]? = some (.cells 26 [.int .i64 k, .int .i64 nn, .str b, .sl .no (toVs l), .sl .no (toPs f)]) := by
      intro x
      have hx := bsx_app o tl [.cells 26 [.int .i64 k, .int .i64 nn, .str b, .sl .no (toVs l), .sl .no (toPs f)]] bufs x
      rw [← hx, ← bsx_len o tl bufs x]
      simp
    have hw : ∀ t : List UInt8, t ≠ [] → (y.getD []).length + t.length ≤ 140737488355328 → call G 42 [.ptr o.length 0, .str t] (bsx o (tl ++ [.cells 26 [.int .i64 k, .int .i64 nn, .str b, .sl .no (toVs l), .sl .no (toPs f)]]) bufs y) = some (.tup [.int .i64 t.length, .nilI], bst o (tl ++ [.cells 26 [.int .i64 k, .int .i64 nn, .str b, .sl .no (toVs l), .sl .no (toPs f)]]) bufs (y.getD [] ++ t)) :=
      fun t h1 h2 => write_bsx _ _ _ _ t h1 h2
    refine call_out (F := af18) rfl rfl ?_
    simp [af18, af18b, vc]
    simp [hbox, hlen2, hobj]
    refine Out_cond _ _ _ _ _ _ _ rfl (fun h0 => ?_) (fun h0 => ?_)
    · simp at h0
      have he : encJ (.mk k nn b l f) = [110, 117, 108, 108] := by rw [encJ, if_pos h0]
      rw [he] at hlen ⊢
      simp at hlen
      simp
      rw [hw _ (by simp) (by simp; omega)]
      simp [fin_bsx]
    · simp at h0
      rw [if_neg h0] at ht
      simp
      refine Out_cond _ _ _ _ _ _ _ rfl (fun h1 => ?_) (fun h1 => ?_)
      · simp at h1
        have he : encJ (.mk k nn b l f) = boolV (decide (nn = 1)) := by rw [encJ, if_neg h0, if_pos h1]
        have hne : boolV (decide (nn = 1)) ≠ [] := by unfold boolV; split <;> simp
        have hbl : (boolV (decide (nn = 1))).length ≤ 5 := by unfold boolV; split <;> simp
        rw [he] at hlen ⊢
        simp [hobj, fb31_spec]
        rw [hw _ hne (by omega)]
        simp [fin_bsx]
      · simp at h1
        rw [if_neg h1] at ht
        simp
        refine Out_cond _ _ _ _ _ _ _ rfl (fun h2 => ?_) (fun h2 => ?_)
        · simp at h2
          have he : encJ (.mk k nn b l f) = Lib.itoa nn := by rw [encJ, if_neg h0, if_neg h1, if_pos h2]
          rw [he] at hlen ⊢
          simp [hobj, fi_spec nn hnn.1 hnn.2]
          rw [hw _ (itoa_ne nn) (by omega)]
          simp [fin_bsx]
        · simp at h2
          rw [if_neg h2] at ht
          simp
          refine Out_cond _ _ _ _ _ _ _ rfl (fun h3 => ?_) (fun h3 => ?_)
          · simp at h3
            have he : encJ (.mk k nn b l f) = quoteV b := by rw [encJ, if_neg h0, if_neg h1, if_neg h2, if_pos h3]
            rw [he] at hlen ⊢
            rw [if_pos h3] at ht
            have hq := fun s => quote_spec b (by omega) s
            simp only [ht, if_true] at hq
            simp [hobj, hq]
            rw [hw _ (quoteV_ne b) (by omega)]
            simp [fin_bsx]
          · simp at h3
            rw [if_neg h3] at ht
            simp
            refine Out_cond _ _ _ _ _ _ _ rfl (fun h4 => ?_) (fun h4 => ?_)
            · simp at h4
              have he : encJ (.mk k nn b l f) = 91 :: (encVs l 0 ++ [93]) := by rw [encJ, if_neg h0, if_neg h1, if_neg h2, if_neg h3, if_pos h4]
              rw [he] at hlen ⊢
              rw [if_pos h4] at ht
              simp at hlen
              have hb91 := byte_bsx o (tl ++ [.cells 26 [.int .i64 k, .int .i64 nn, .str b, .sl .no (toVs l), .sl .no (toPs f)]]) bufs y 91 (by omega)
              simp at hb91
              simp [hobj, hb91]
              have hobj' : (bst o (tl ++ [.cells 26 [.int .i64 k, .int .i64 nn, .str b, .sl .no (toVs l), .sl .no (toPs f)]]) bufs (y.getD [] ++ [91])).obs[o.length + 1 + tl.length]? = some (.cells 26 [.int .i64 k, .int .i64 nn, .str b, .sl .no (toVs l), .sl .no (toPs f)]) := hobj (some (y.getD [] ++ [91]))
              simp [hobj']
              have hloop := fun env => encLoop0 o tl bufs l hl (ihl ht) l.length 0 env [.cells 26 [.int .i64 k, .int .i64 nn, .str b, .sl .no (toVs l), .sl .no (toPs f)]] (y.getD [] ++ [91]) (by omega) (by omega)
              refine Out.mono (hloop _ ?_ ?_ ?_ ?_ ?_) ?_
              · simp
              · simp
              · simp [toVs_length]
              · simp
              · simp; omega
              rintro e env' s' ⟨rfl, g0, junk', rfl⟩
              have hb93 := byte_bst o (tl ++ junk') bufs (y.getD [] ++ [91] ++ encVs (l.drop 0) 0) 93 (by simp; omega)
              simp at hb93
              simp [g0, hb93, fin_bsx]
            · simp at h4
              rw [if_neg h4] at ht
              simp
              refine Out_cond _ _ _ _ _ _ _ rfl (fun h5 => ?_) (fun h5 => ?_)
              · simp at h5
                have he : encJ (.mk k nn b l f) = 123 :: (encPs f 0 ++ [125]) := by rw [encJ, if_neg h0, if_neg h1, if_neg h2, if_neg h3, if_neg h4, if_pos h5]
                rw [he] at hlen ⊢
                rw [if_pos h5] at ht
                simp only [Bool.and_eq_true] at ht
                simp at hlen
                have hb91 := byte_bsx o (tl ++ [.cells 26 [.int .i64 k, .int .i64 nn, .str b, .sl .no (toVs l), .sl .no (toPs f)]]) bufs y 123 (by omega)
                simp at hb91
                simp [hobj, hb91]
                have hobj' : (bst o (tl ++ [.cells 26 [.int .i64 k, .int .i64 nn, .str b, .sl .no (toVs l), .sl .no (toPs f)]]) bufs (y.getD [] ++ [123])).obs[o.length + 1 + tl.length]? = some (.cells 26 [.int .i64 k, .int .i64 nn, .str b, .sl .no (toVs l), .sl .no (toPs f)]) := hobj (some (y.getD [] ++ [123]))
                simp [hobj']
                have hloop := fun env => encLoop1 o tl bufs f hf (fun p hp => ⟨keysV_mem ht.1 p hp, by have := (smPs_mem hsf p hp).1; omega⟩) (ihf ht.2) f.length 0 env [.cells 26 [.int .i64 k, .int .i64 nn, .str b, .sl .no (toVs l), .sl .no (toPs f)]] (y.getD [] ++ [123]) (by omega) (by omega)
                refine Out.mono (hloop _ ?_ ?_ ?_ ?_ ?_) ?_
                · simp
                · simp
                · simp [toPs_length]
                · simp
                · simp; omega
                rintro e env' s' ⟨rfl, g0, junk', rfl⟩
                have hb93 := byte_bst o (tl ++ junk') bufs (y.getD [] ++ [123] ++ encPs (f.drop 0) 0) 125 (by simp; omega)
                simp at hb93
                simp [g0, hb93, fin_bsx]
              · simp at h5
                rw [if_neg h5] at ht
                cases ht
termination_by v => SizeOf.sizeOf v
decreasing_by
  · have := List.sizeOf_lt_of_mem hx
    simp; omega
  · have := List.sizeOf_lt_of_mem hx
    obtain ⟨a, b⟩ := x
    simp at this ⊢; omega

end Go.Proofs.YtjdppboomglenaaGreatDoor.Eng

/-
  A text in quotes by the reference is the program's: by bytes and by runes. No condition.
-/
namespace Go.Proofs.YtjdppboomglenaaGreatDoor.Eng
open Go
set_option linter.unusedSimpArgs false
set_option linter.unusedVariables false

theorem take_drop_getD (b : List UInt8) (p : Nat) : ∀ n, p + n ≤ b.length → (b.drop p).take n = (List.range n).map fun i => b.getD (p + i) 0
  | 0, _ => by simp
  | n + 1, h => by
    rw [List.range_succ, List.map_append, ← take_drop_getD b p n (by omega), List.take_add_one]
    congr 1
    rw [List.getElem?_drop, List.getElem?_eq_getElem (by omega)]
    simp [List.getD_eq_getElem?_getD, List.getElem?_eq_getElem (show p + n < b.length by omega)]

theorem ofNat_eq {n : Nat} {x : UInt8} (h : n = x.toNat) : UInt8.ofNat n = x := by subst h; exact UInt8.ofNat_toNat

theorem size_bytes (b : List UInt8) (p : Nat) (hp : p < b.length) (h : (sizeV b p).1 ≠ 0) :
    encV (sizeV b p).2 = (b.drop p).take (sizeV b p).1 ∧ (((sizeV b p).1 = 1 ∧ (sizeV b p).2 = (b.getD p 0).toNat ∧ (b.getD p 0).toNat < 128) ∨ (128 ≤ (sizeV b p).2 ∧ ∀ x ∈ (b.drop p).take (sizeV b p).1, 128 ≤ x.toNat)) := by
  have e1 := byte_lt (b.getD p 0)
  have hx : ∀ n, n < b.length + 1 - p → (b.drop p).take n = (List.range n).map fun i => b.getD (p + i) 0 := fun n hn => take_drop_getD b p n (by omega)
  revert h
  unfold sizeV
  simp only
  split
  · rename_i hc
    intro _
    rw [hx 1 (by omega)]
    refine ⟨?_, .inl ⟨rfl, rfl, hc⟩⟩
    rw [encV, if_pos hc, ofNat_eq rfl]
    simp [List.range_succ, List.getD_eq_getElem?_getD]
  · rename_i hc
    split
    · rename_i h2
      split
      · intro h; simp at h
      · rename_i hl
        simp only [contV, Nat.reduceAdd]
        have e2 := byte_lt (b.getD (p + 1) 0)
        split
        · intro h; simp at h
        · rename_i w hw
          split at hw
          · cases hw
          · rename_i hd
            have hw' := Option.some.inj hw
            subst hw'
            split
            · intro h; simp at h
            · rename_i hw2
              intro _
              rw [hx 2 (by omega)]
              simp only [List.range_succ, List.range_zero, List.nil_append, List.map_append, List.map_cons, List.map_nil, Nat.add_zero]
              refine ⟨?_, .inr ⟨by omega, ?_⟩⟩
              · rw [encV, if_neg (by omega), if_pos (by omega)]
                simp only [List.cons_append, List.nil_append, List.cons.injEq, and_true]
                exact ⟨ofNat_eq (by omega), ofNat_eq (by omega)⟩
              · intro x hx
                simp only [List.cons_append, List.nil_append, List.mem_cons, List.not_mem_nil, or_false] at hx
                rcases hx with rfl | rfl <;> omega
    · split
      · rename_i h3
        split
        · intro h; simp at h
        · rename_i hl
          simp only [contV, Nat.reduceAdd]
          have e2 := byte_lt (b.getD (p + 1) 0)
          have e3 := byte_lt (b.getD (p + 2) 0)
          split
          · intro h; simp at h
          · rename_i w hw
            split at hw
            · cases hw
            · rename_i hd
              split at hw
              · cases hw
              · rename_i hd2
                have hw' := Option.some.inj hw
                subst hw'
                split
                · intro h; simp at h
                · rename_i hw2
                  intro _
                  rw [hx 3 (by omega)]
                  simp only [List.range_succ, List.range_zero, List.nil_append, List.map_append, List.map_cons, List.map_nil, Nat.add_zero, List.cons_append, List.append_assoc]
                  refine ⟨?_, .inr ⟨by omega, ?_⟩⟩
                  · rw [encV, if_neg (by omega), if_neg (by omega), if_pos (by omega)]
                    simp only [List.cons_append, List.nil_append, List.cons.injEq, and_true]
                    exact ⟨ofNat_eq (by omega), ofNat_eq (by omega), ofNat_eq (by omega)⟩
                  · intro x hx
                    simp only [List.cons_append, List.nil_append, List.mem_cons, List.not_mem_nil, or_false] at hx
                    rcases hx with rfl | rfl | rfl <;> omega
      · split
        · rename_i h4
          split
          · intro h; simp at h
          · rename_i hl
            simp only [contV, Nat.reduceAdd]
            have e2 := byte_lt (b.getD (p + 1) 0)
            have e3 := byte_lt (b.getD (p + 2) 0)
            have e4 := byte_lt (b.getD (p + 3) 0)
            split
            · intro h; simp at h
            · rename_i w hw
              split at hw
              · cases hw
              · rename_i hd
                split at hw
                · cases hw
                · rename_i hd2
                  split at hw
                  · cases hw
                  · rename_i hd3
                    have hw' := Option.some.inj hw
                    subst hw'
                    split
                    · intro h; simp at h
                    · rename_i hw2
                      intro _
                      rw [hx 4 (by omega)]
                      simp only [List.range_succ, List.range_zero, List.nil_append, List.map_append, List.map_cons, List.map_nil, Nat.add_zero, List.cons_append, List.append_assoc]
                      refine ⟨?_, .inr ⟨by omega, ?_⟩⟩
                      · rw [encV, if_neg (by omega), if_neg (by omega), if_neg (by omega)]
                        simp only [List.cons_append, List.nil_append, List.cons.injEq, and_true]
                        exact ⟨ofNat_eq (by omega), ofNat_eq (by omega), ofNat_eq (by omega), ofNat_eq (by omega)⟩
                      · intro x hx
                        simp only [List.cons_append, List.nil_append, List.mem_cons, List.not_mem_nil, or_false] at hx
                        rcases hx with rfl | rfl | rfl | rfl <;> omega
        · intro h; simp at h

/-! ### The reference's text in quotes -/
def plainR (c : Nat) : Nat := if c = 34 ∨ c = 92 then c else if c = 8 then 98 else if c = 12 then 102 else if c = 10 then 110 else if c = 13 then 114 else if c = 9 then 116 else 0
def hexR (n : Nat) : List UInt8 := if n < 10 then [UInt8.ofNat (48 + n)] else [UInt8.ofNat (87 + n)]
def qByte (x : UInt8) : List UInt8 :=
  if plainR x.toNat ≠ 0 then [92, UInt8.ofNat (plainR x.toNat)] else if x.toNat < 32 then [92, 117, 48, 48] ++ hexR (x.toNat / 16) ++ hexR (x.toNat % 16) else [x]

theorem qByte_high {x : UInt8} (h : 128 ≤ x.toNat) : qByte x = [x] := by
  unfold qByte plainR
  have e1 : ¬ (x.toNat = 34 ∨ x.toNat = 92) := by omega
  have e2 : ¬ x.toNat = 8 := by omega
  have e3 : ¬ x.toNat = 12 := by omega
  have e4 : ¬ x.toNat = 10 := by omega
  have e5 : ¬ x.toNat = 13 := by omega
  have e6 : ¬ x.toNat = 9 := by omega
  have e7 : ¬ x.toNat < 32 := by omega
  simp [e1, e2, e3, e4, e5, e6, e7]

theorem flat_high : ∀ {l : List UInt8}, (∀ x ∈ l, 128 ≤ x.toNat) → l.flatMap qByte = l
  | [], _ => rfl
  | x :: l, h => by
    rw [List.flatMap_cons, qByte_high (h x (by simp)), flat_high (fun y hy => h y (by simp [hy]))]
    rfl

theorem hexV_R : ∀ x : Fin 16, hexV x.val = hexR x.val := by decide

theorem outV_low (x : UInt8) (h : x.toNat < 128) : outV x.toNat = qByte x := by
  have hx : encV x.toNat = [x] := by rw [encV, if_pos h]; exact congrArg (· :: []) (ofNat_eq rfl)
  unfold outV
  rw [hx]
  unfold escV qByte plainR
  generalize hn : x.toNat = n at *
  have h16 : hexV (n % 16) = hexR (n % 16) := hexV_R ⟨n % 16, by omega⟩
  by_cases e1 : n = 34
  · subst e1; simp
  by_cases e2 : n = 92
  · subst e2; simp
  by_cases e3 : n = 8
  · subst e3; simp
  by_cases e4 : n = 12
  · subst e4; simp
  by_cases e5 : n = 10
  · subst e5; simp
  by_cases e6 : n = 13
  · subst e6; simp
  by_cases e7 : n = 9
  · subst e7; simp
  by_cases e8 : n < 32
  · have h2 : hexV (n / 16) = hexR (n / 16) := hexV_R ⟨n / 16, by omega⟩
    simp [e1, e2, e3, e4, e5, e6, e7, e8, h16, h2]
  · simp [e1, e2, e3, e4, e5, e6, e7, e8]

theorem outV_high {c : Nat} (h : 128 ≤ c) : outV c = encV c := by
  unfold outV escV
  have e1 : ¬ c = 34 := by omega
  have e1' : ¬ c = 92 := by omega
  have e2 : ¬ c = 8 := by omega
  have e3 : ¬ c = 12 := by omega
  have e4 : ¬ c = 10 := by omega
  have e5 : ¬ c = 13 := by omega
  have e6 : ¬ c = 9 := by omega
  have e7 : ¬ c < 32 := by omega
  simp [e1, e1', e2, e3, e4, e5, e6, e7]

theorem badV_neg (b : List UInt8) (f p : Nat) (hp : p < b.length) (h : badV b (f + 1) p = -1) : (sizeV b p).1 ≠ 0 ∧ badV b f (p + (sizeV b p).1) = -1 := by
  rw [badV, if_pos hp] at h
  split at h
  · omega
  · exact ⟨by assumption, h⟩

theorem quoteB_ref (b : List UInt8) : ∀ f p, p ≤ b.length → b.length < p + f → badV b f p = -1 → quoteB b f p = (b.drop p).flatMap qByte
  | 0, p, hp, hf, _ => by omega
  | f + 1, p, hp, hf, hb => by
    rw [quoteB]
    split
    · rename_i hlt
      obtain ⟨hs, hb'⟩ := badV_neg b f p hlt hb
      obtain ⟨h1, h2⟩ := size_bytes b p hlt hs
      have hle := sizeV_le b p hlt
      have hd : sizeV b p = ((decV b p).2, (decV b p).1) := by
        have := sizeV_dec b p hlt
        split at this
        · rw [this] at hs; simp at hs
        · exact this
      have hd1 : (decV b p).1 = (sizeV b p).2 := by rw [hd]
      have hd2 : (decV b p).2 = (sizeV b p).1 := by rw [hd]
      rw [hd1, hd2]
      rw [quoteB_ref b f _ (by omega) (by omega) hb']
      have hsplit : b.drop p = (b.drop p).take (sizeV b p).1 ++ b.drop (p + (sizeV b p).1) := by rw [← List.drop_drop, List.take_append_drop]
      rw [hsplit, List.flatMap_append]
      congr 1
      rcases h2 with ⟨g1, g2, g3⟩ | ⟨g1, g2⟩
      · rw [g1, g2, outV_low _ g3, take_drop_getD b p 1 (by omega)]
        simp [List.range_succ]
      · rw [outV_high g1, flat_high g2, h1]
    · rw [List.drop_of_length_le (by omega)]; rfl

def quoteR (b : List UInt8) : List UInt8 := 34 :: (b.flatMap qByte ++ [34])

theorem quote_ref (b : List UInt8) (h : rightV b = true) : quoteV b = quoteR b := by
  unfold quoteV quoteR
  rw [quoteB_ref b _ 0 (by omega) (by omega) (by simpa [rightV] using h)]
  rfl

end Go.Proofs.YtjdppboomglenaaGreatDoor.Eng

/-
  The reference's functions for JSON: what they compute. No condition.
-/
namespace Go.Proofs.YtjdppboomglenaaGreatDoor.Eng
open Go
set_option linter.unusedSimpArgs false
set_option linter.unusedVariables false

attribute [local simp] evC_reg evC_regD evR_cons evR_nil runR_some regK_some evC_ret evC_skip evC_exit Out_seq Out_blk Out_some seqQ_norm seqQ_ret seqQ_exit blkQ_norm blkQ_ret blkQ_exit loopQ_norm loopQ_ret loopQ_exit
attribute [local simp] stepR evOp put upd_apply X.ev initEnv cells_agg cells_int cells_str cells_bool cells_sl cells_ptr cells_pnil cells_fn cells_map vc_length vc_take vc_plain vc_und toVs_plain toPs_plain toVs_und toPs_und takeN evBin isSh intBin strBin callK resOf packR fin V.plain plainL V.und undL scK kill dstsO dstsL dstsR ite_some ite_pair ite_vbool evUn evLoad evLen V.real finLoop_false quietK_false quietK_same kill_none

theorem imax9 : i64max = 9223372036854775807 := rfl

theorem qByte_len (x : UInt8) : (qByte x).length ≤ 6 := by
  unfold qByte hexR
  repeat' split
  all_goals simp
theorem flat_len : ∀ b : List UInt8, (b.flatMap qByte).length ≤ 6 * b.length
  | [] => by simp
  | x :: l => by
    have := flat_len l
    have := qByte_len x
    rw [List.flatMap_cons, List.length_append, List.length_cons]; omega

/-! ### Number -/
def dig0 (u : Nat) : List UInt8 := if u = 0 then [] else Lib.decDigits u
theorem dig0_step {u : Nat} (h : u ≠ 0) : dig0 u = dig0 (u / 10) ++ [UInt8.ofNat (48 + u % 10)] := by
  unfold dig0
  rw [if_neg h]
  by_cases hu : u < 10
  · rw [Lib.decDigits, dif_pos hu, if_pos (by omega)]
    simp [Nat.mod_eq_of_lt hu]
  · rw [Lib.decDigits, dif_neg hu, if_neg (by omega)]

theorem itoa_dig (n : Int) (h : n ≠ 0) : Lib.itoa n = if n < 0 then 45 :: dig0 n.natAbs else dig0 n.natAbs := by
  unfold Lib.itoa dig0
  have hz : ¬ n.natAbs = 0 := by omega
  rw [if_neg hz]
  split
  · rfl
  · rw [show n.toNat = n.natAbs by omega]

end Go.Proofs.YtjdppboomglenaaGreatDoor.Eng

/-
  The reference's JSON, and json.Encode. No condition.
-/
namespace Go.Proofs.YtjdppboomglenaaGreatDoor.Eng
open Go
set_option linter.unusedSimpArgs false
set_option linter.unusedVariables false

attribute [local simp] evC_reg evC_regD evR_cons evR_nil runR_some regK_some evC_ret evC_skip evC_exit Out_seq Out_blk Out_some seqQ_norm seqQ_ret seqQ_exit blkQ_norm blkQ_ret blkQ_exit loopQ_norm loopQ_ret loopQ_exit
attribute [local simp] stepR evOp put upd_apply X.ev initEnv cells_agg cells_int cells_str cells_bool cells_sl cells_ptr cells_pnil cells_fn cells_map vc_length vc_take vc_plain vc_und toVs_plain toPs_plain toVs_und toPs_und takeN evBin isSh intBin strBin callK resOf packR fin V.plain plainL V.und undL scK kill dstsO dstsL dstsR ite_some ite_pair ite_vbool evUn evLoad evLen V.real finLoop_false quietK_false quietK_same kill_none

end Go.Proofs.YtjdppboomglenaaGreatDoor.Eng

/-
  The statement JsonEncodes, over values. No condition.
-/
namespace Go.Proofs.YtjdppboomglenaaGreatDoor.Eng
open Go
set_option linter.unusedSimpArgs false
set_option linter.unusedVariables false

attribute [local simp] evC_reg evC_regD evR_cons evR_nil runR_some regK_some evC_ret evC_skip evC_exit Out_seq Out_blk Out_some seqQ_norm seqQ_ret seqQ_exit blkQ_norm blkQ_ret blkQ_exit loopQ_norm loopQ_ret loopQ_exit
attribute [local simp] stepR evOp put upd_apply X.ev initEnv cells_agg cells_int cells_str cells_bool cells_sl cells_ptr cells_pnil cells_fn cells_map vc_length vc_take vc_plain vc_und toVs_plain toPs_plain toVs_und toPs_und takeN evBin isSh intBin strBin callK resOf packR V.plain plainL V.und undL scK kill dstsO dstsL dstsR ite_some ite_pair ite_vbool evUn evLoad evLen V.real finLoop_false quietK_false quietK_same kill_none

theorem dig0_len : ∀ (m u : Nat), u < 10 ^ m → (dig0 u).length ≤ m := by
  intro m
  induction m with
  | zero =>
    intro u hu
    have : u = 0 := by omega
    subst this
    simp [dig0]
  | succ m ih =>
    intro u hu
    by_cases hu0 : u = 0
    · subst hu0; simp [dig0]
    · rw [dig0_step hu0, List.length_append]
      have := ih (u / 10) (by rw [Nat.pow_succ] at hu; omega)
      simp; omega
theorem itoa_len (n : Int) (h0 : -9223372036854775808 ≤ n) (h1 : n ≤ 9223372036854775807) : (Lib.itoa n).length ≤ 21 := by
  by_cases hz : n = 0
  · subst hz
    have : Lib.itoa 0 = [48] := by unfold Lib.itoa; rw [if_neg (by omega), Lib.decDigits]; rfl
    rw [this]; simp
  · have := dig0_len 20 n.natAbs (by omega)
    rw [itoa_dig n hz]
    split
    · simp; omega
    · omega
theorem quoteV_len (b : List UInt8) : (quoteV b).length ≤ 6 * b.length + 2 := by
  have := quoteB_len b (b.length + 1) 0
  simp [quoteV]; omega

mutual
theorem few_ok : ∀ (v : JV), v.ok → ∀ n : Int, 0 ≤ fewV v n → smV v ∧ 1 ≤ n ∧ ((encJ v).length : Int) + 4000 ≤ 8000 * (n - fewV v n)
  | .mk k nn s l f, hok, n, h => by
    obtain ⟨_, hnn, hb, hl, hf, hokl, hokf⟩ := hok
    simp only [fewV] at h ⊢
    split at h
    · omega
    · rename_i hc
      rw [if_neg hc]
      simp only [not_or] at hc
      obtain ⟨g1, g2, g3⟩ := few_okPs f hokf (fewVs l (n - 1)) h 0
      obtain ⟨q1, q2, q3⟩ := few_okVs l hokl (n - 1) g2 0
      refine ⟨⟨by omega, q1, g1⟩, by omega, ?_⟩
      have hi := itoa_len nn hnn.1 hnn.2
      have hq := quoteV_len s
      have hbo : (boolV (decide (nn = 1))).length ≤ 5 := by unfold boolV; split <;> simp
      rw [encJ]
      repeat' split
      all_goals (simp; omega)
theorem few_okVs : ∀ (l : List JV), okVs l → ∀ n : Int, 0 ≤ fewVs l n → ∀ i, smVs l ∧ 0 ≤ n ∧ ((encVs l i).length : Int) ≤ 8000 * (n - fewVs l n)
  | [], _, n, h, i => by simp only [fewVs] at h ⊢; simp [smVs, encVs]; exact h
  | v :: vs, hok, n, h, i => by
    simp only [fewVs] at h ⊢
    split at h
    · rename_i hn
      rw [if_pos hn]
      obtain ⟨g1, g2, g3⟩ := few_okVs vs hok.2 (fewV v n) h (i + 1)
      obtain ⟨q1, q2, q3⟩ := few_ok v hok.1 n g2
      refine ⟨⟨q1, g1⟩, hn, ?_⟩
      have : (if 0 < i then [44] else ([] : List UInt8)).length ≤ 1 := by split <;> simp
      simp only [encVs, List.length_append]
      omega
    · omega
theorem few_okPs : ∀ (l : List (List UInt8 × JV)), okPs l → ∀ n : Int, 0 ≤ fewPs l n → ∀ i, smPs l ∧ 0 ≤ n ∧ ((encPs l i).length : Int) ≤ 8000 * (n - fewPs l n)
  | [], _, n, h, i => by simp only [fewPs] at h ⊢; simp [smPs, encPs]; exact h
  | p :: ps, hok, n, h, i => by
    simp only [fewPs] at h ⊢
    split at h
    · rename_i hn
      split at h
      · omega
      · rename_i hk
        rw [if_pos hn, if_neg hk]
        obtain ⟨g1, g2, g3⟩ := few_okPs ps hok.2.2 (fewV p.2 n) h (i + 1)
        obtain ⟨q1, q2, q3⟩ := few_ok p.2 hok.2.1 n g2
        refine ⟨⟨by omega, q1, g1⟩, hn, ?_⟩
        have : (if 0 < i then [44] else ([] : List UInt8)).length ≤ 1 := by split <;> simp
        have hq := quoteV_len p.1
        simp only [encPs, List.length_append, List.length_cons, List.length_nil]
        omega
    · omega
end

theorem encJ_ne (v : JV) (d : Int) (h : treeV v d = true) : encJ v ≠ [] := by
  obtain ⟨k, nn, b, l, f⟩ := v
  rw [treeV] at h
  split at h
  · cases h
  · have hbo : boolV (decide (nn = 1)) ≠ [] := by unfold boolV; split <;> simp
    have hi := itoa_ne nn
    have hq := quoteV_ne b
    rw [encJ]
    repeat' split
    all_goals (first | assumption | (simp; done) | skip)
    exfalso
    simp only [*, if_false] at h
    cases h

theorem encode_spec (v : JV) (hok : v.ok) (hs : treeV v 12 = true → smV v ∧ (encJ v).length ≤ 100000000000) (s : St) :
    call G 11 [toV v] s = if treeV v 12 = true then some (.tup [.str (encJ v), .int .i64 0], s) else some (.tup [.str [], .int .i64 1], s) := by
  have htr := fun s => treeRight_spec v hok s
  refine (?_ : _ = _)
  by_cases ht : treeV v 12 = true
  · rw [if_pos ht]
    obtain ⟨hsm, hlen⟩ := hs ht
    have henc := enc_spec v hok hsm 12 ht (s.obs ++ [.cells 26 (vc v)]) [] s.bufs none (by simpa using hlen)
    have hstr := string_bst (s.obs ++ [.cells 26 (vc v)]) [] s.bufs (encJ v) (encJ_ne v 12 ht) (by omega)
    simp [bsx] at henc hstr
    have h0 : ({ obs := s.obs ++ [.cells 26 (vc v), .cells 53 [.pnil, .sl .nil []]], bufs := s.bufs } : St) = bst0 (s.obs ++ [.cells 26 (vc v)]) [] s.bufs := by simp [bst0]
    have hbl : (bst0 (s.obs ++ [.cells 26 (vc v)]) [] s.bufs).obs[s.obs.length]? = some (.cells 26 (vc v)) := by simp [bst0]
    refine call_out (F := af11) rfl rfl ?_
    simp [af11, af11b, htr, ht]
    refine Out_cond _ _ _ _ _ _ _ rfl (fun h => by simp at h) (fun _ => ?_)
    simp [h0, hbl, henc, hstr, fin]
    simp [bst]
  · rw [if_neg ht]
    have ht' : treeV v 12 = false := by simpa using ht
    refine call_out (F := af11) rfl rfl ?_
    simp [af11, af11b, htr, ht']
    refine Out_cond _ _ _ _ _ _ _ rfl (fun _ => ?_) (fun h => by simp at h)
    simp [fin]

attribute [local simp] fin

def jm5 : JV := .mk 2 (-5) [] [] []
theorem awake_spec (s : St) : call G 5 [] s = some (.bool true, s) := by
  have hok : jm5.ok := by simp [jm5, JV.ok, okVs, okPs]
  have he : encJ jm5 = [45, 53] := by
    unfold jm5
    rw [encJ, if_neg (by omega), if_neg (by omega), if_pos rfl]
    unfold Lib.itoa
    rw [if_pos (by omega), Lib.decDigits]
    rfl
  have ht : treeV jm5 12 = true := by
    unfold jm5
    rw [treeV, if_neg, if_neg (by omega), if_neg (by omega), if_pos rfl]
    · decide
    · rintro (h | h)
      · omega
      · revert h; decide
  have h := fun s => encode_spec jm5 hok (fun _ => by rw [he]; simp [jm5, smV, smVs, smPs]) s
  simp only [ht, if_true, he] at h
  simp only [toV, jm5, vc, toVs, toPs] at h
  refine call_out (F := af5) rfl rfl ?_
  simp [af5, af5b, fillL, putL]
  simp [h]

end Go.Proofs.YtjdppboomglenaaGreatDoor.Eng

/-
  Two right values have one JSON just if they are one: the plain law. No condition.
-/
namespace Go.Proofs.YtjdppboomglenaaGreatDoor.Eng
open Go
set_option linter.unusedSimpArgs false
set_option linter.unusedVariables false

/-- A decimal digit. -/
def isDig (x : UInt8) : Bool := decide (48 ≤ x.toNat) && decide (x.toNat ≤ 57)
/-- What follows begins with no digit. -/
def noDig : List UInt8 → Prop
  | [] => True
  | x :: _ => isDig x = false

/-! ### Numbers -/
theorem decDigits_step (u : Nat) : Lib.decDigits u = if u < 10 then [UInt8.ofNat (48 + u)] else Lib.decDigits (u / 10) ++ [UInt8.ofNat (48 + u % 10)] := by
  rw [Lib.decDigits]; rfl

theorem dig_toNat {k : Nat} (h : k < 10) : (UInt8.ofNat (48 + k)).toNat = 48 + k := by rw [UInt8.toNat_ofNat']; omega

theorem decDigits_dig : ∀ (u : Nat), ∀ x ∈ Lib.decDigits u, isDig x = true := by
  intro u
  induction u using Nat.strongRecOn with
  | _ u ih =>
    intro x hx
    rw [decDigits_step] at hx
    split at hx
    · simp at hx
      subst hx
      have := dig_toNat (k := u) (by omega)
      simp [isDig] at this ⊢
      omega
    · rcases List.mem_append.1 hx with hx | hx
      · exact ih (u / 10) (by omega) x hx
      · simp at hx
        subst hx
        have := dig_toNat (k := u % 10) (by omega)
        simp [isDig] at this ⊢
        omega

def valD (l : List UInt8) : Nat := l.foldl (fun a x => 10 * a + (x.toNat - 48)) 0
theorem valD_dec : ∀ u, valD (Lib.decDigits u) = u := by
  intro u
  induction u using Nat.strongRecOn with
  | _ u ih =>
    rw [decDigits_step]
    split
    · have := dig_toNat (k := u) (by omega)
      simp only [valD, List.foldl_cons, List.foldl_nil, this]
      omega
    · have := dig_toNat (k := u % 10) (by omega)
      have hi := ih (u / 10) (by omega)
      simp only [valD] at hi
      simp only [valD, List.foldl_append, List.foldl_cons, List.foldl_nil, this, hi]
      omega

theorem dec_pre : ∀ {a b x y : List UInt8}, (∀ c ∈ a, isDig c = true) → (∀ c ∈ b, isDig c = true) → noDig x → noDig y → a ++ x = b ++ y → a = b ∧ x = y
  | [], [], _, _, _, _, _, _, h => ⟨rfl, h⟩
  | [], c :: b, x, y, _, hb, hx, _, h => by
    exfalso
    simp only [List.nil_append, List.cons_append] at h
    subst h
    have := hb c (by simp)
    simp only [noDig, this] at hx
    cases hx
  | c :: a, [], x, y, ha, _, _, hy, h => by
    exfalso
    simp only [List.nil_append, List.cons_append] at h
    subst h
    have := ha c (by simp)
    simp only [noDig, this] at hy
    cases hy
  | c :: a, d :: b, x, y, ha, hb, hx, hy, h => by
    simp only [List.cons_append, List.cons.injEq] at h
    obtain ⟨rfl, h⟩ := h
    obtain ⟨rfl, rfl⟩ := dec_pre (fun e he => ha e (by simp [he])) (fun e he => hb e (by simp [he])) hx hy h
    exact ⟨rfl, rfl⟩

theorem decDigits_inj {u v : Nat} (h : Lib.decDigits u = Lib.decDigits v) : u = v := by
  rw [← valD_dec u, ← valD_dec v, h]

theorem itoa_pre {n m : Int} {x y : List UInt8} (hx : noDig x) (hy : noDig y) (h : Lib.itoa n ++ x = Lib.itoa m ++ y) : n = m ∧ x = y := by
  have h45 : ∀ u z w, ¬ (45 :: z = Lib.decDigits u ++ w) := by
    intro u z w hq
    have hne : Lib.decDigits u ≠ [] := by rw [decDigits_step]; split <;> simp
    obtain ⟨c, r, hcr⟩ := List.exists_cons_of_ne_nil hne
    rw [hcr] at hq
    simp only [List.cons_append, List.cons.injEq] at hq
    have := decDigits_dig u c (by rw [hcr]; simp)
    rw [← hq.1] at this
    revert this; decide
  unfold Lib.itoa at h
  split at h
  · split at h
    · simp only [List.cons_append, List.cons.injEq, true_and] at h
      obtain ⟨h1, h2⟩ := dec_pre (decDigits_dig _) (decDigits_dig _) hx hy h
      have := decDigits_inj h1
      exact ⟨by omega, h2⟩
    · exact absurd (by simpa using h) (h45 m.toNat _ y)
  · split at h
    · exact absurd (by simpa using h.symm) (h45 n.toNat _ x)
    · obtain ⟨h1, h2⟩ := dec_pre (decDigits_dig _) (decDigits_dig _) hx hy h
      have := decDigits_inj h1
      exact ⟨by omega, h2⟩

theorem itoa_head (n : Int) : ∃ c r, Lib.itoa n = c :: r ∧ (c = 45 ∨ isDig c = true) := by
  unfold Lib.itoa
  split
  · exact ⟨45, _, rfl, .inl rfl⟩
  · have hne : Lib.decDigits n.toNat ≠ [] := by rw [decDigits_step]; split <;> simp
    obtain ⟨c, r, hcr⟩ := List.exists_cons_of_ne_nil hne
    exact ⟨c, r, hcr, .inr (decDigits_dig n.toNat c (by rw [hcr]; simp))⟩

/-! ### Texts -/
theorem plainR_cases (c : Nat) : plainR c = 0 ∨ (plainR c ≠ 117 ∧ plainR c < 256 ∧ plainR c ≠ 0) := by
  unfold plainR
  repeat' split
  all_goals omega
theorem plainR_inj {c d : Nat} (hc : plainR c ≠ 0) (h : plainR c = plainR d) : c = d := by
  unfold plainR at h hc
  repeat' split at h
  all_goals (first | omega | skip)
  all_goals simp_all
theorem hexR_inj {a b : Nat} (ha : a < 16) (hb : b < 16) {x y : List UInt8} (h : hexR a ++ x = hexR b ++ y) : a = b ∧ x = y := by
  have e : ∀ k, k < 16 → ∃ c : UInt8, hexR k = [c] ∧ c.toNat = if k < 10 then 48 + k else 87 + k := by
    intro k hk
    unfold hexR
    split
    · exact ⟨_, rfl, by rw [UInt8.toNat_ofNat']; omega⟩
    · exact ⟨_, rfl, by rw [UInt8.toNat_ofNat']; omega⟩
  obtain ⟨c, hc, hcn⟩ := e a ha
  obtain ⟨d, hd, hdn⟩ := e b hb
  rw [hc, hd] at h
  simp only [List.cons_append, List.nil_append, List.cons.injEq] at h
  obtain ⟨rfl, h⟩ := h
  refine ⟨?_, h⟩
  rw [hcn] at hdn
  split at hdn <;> split at hdn <;> omega

theorem qByte_pre {c d : UInt8} {x y : List UInt8} (h : qByte c ++ x = qByte d ++ y) : c = d ∧ x = y := by
  have hc := c.toNat_lt
  have hd := d.toNat_lt
  have key : c.toNat = d.toNat → c = d := fun h => UInt8.toNat_inj.1 h
  unfold qByte at h
  split at h
  · rename_i h1
    have hpc := (plainR_cases c.toNat).resolve_left h1
    split at h
    · rename_i h2
      have hpd := (plainR_cases d.toNat).resolve_left h2
      simp only [List.cons_append, List.nil_append, List.cons.injEq, true_and] at h
      have e := congrArg UInt8.toNat h.1
      rw [UInt8.toNat_ofNat', UInt8.toNat_ofNat'] at e
      exact ⟨key (plainR_inj h1 (by omega)), h.2⟩
    · split at h
      · exfalso
        simp only [List.cons_append, List.nil_append, List.cons.injEq, true_and] at h
        have e := congrArg UInt8.toNat h.1
        rw [UInt8.toNat_ofNat'] at e
        have : (117 : UInt8).toNat = 117 := rfl
        omega
      · rename_i h2 h3
        exfalso
        simp only [List.cons_append, List.nil_append, List.cons.injEq] at h
        apply h2
        rw [← h.1]
        decide
  · rename_i h1
    split at h
    · rename_i h3
      split at h
      · rename_i h2
        exfalso
        have hpd := (plainR_cases d.toNat).resolve_left h2
        simp only [List.cons_append, List.nil_append, List.cons.injEq, true_and] at h
        have e := congrArg UInt8.toNat h.1
        rw [UInt8.toNat_ofNat'] at e
        have : (117 : UInt8).toNat = 117 := rfl
        omega
      · split at h
        · rename_i h2 h4
          simp only [List.cons_append, List.nil_append, List.cons.injEq, true_and, List.append_assoc] at h
          obtain ⟨e1, h⟩ := hexR_inj (by omega) (by omega) h
          obtain ⟨e2, h⟩ := hexR_inj (by omega) (by omega) h
          exact ⟨key (by omega), h⟩
        · rename_i h2 h4
          exfalso
          simp only [List.cons_append, List.nil_append, List.cons.injEq] at h
          apply h2
          rw [← h.1]
          decide
    · rename_i h3
      split at h
      · exfalso
        simp only [List.cons_append, List.nil_append, List.cons.injEq] at h
        apply h1
        rw [h.1]
        decide
      · split at h
        · exfalso
          simp only [List.cons_append, List.nil_append, List.cons.injEq] at h
          apply h1
          rw [h.1]
          decide
        · simp only [List.cons_append, List.nil_append, List.cons.injEq] at h
          exact h

theorem qByte_head (c : UInt8) : ∃ a r, qByte c = a :: r ∧ a ≠ 34 := by
  unfold qByte
  split
  · exact ⟨92, _, rfl, by decide⟩
  · rename_i h
    split
    · exact ⟨92, _, rfl, by decide⟩
    · refine ⟨c, _, rfl, ?_⟩
      rintro rfl
      exact h (by decide)

theorem body_pre : ∀ {b d x y : List UInt8}, b.flatMap qByte ++ 34 :: x = d.flatMap qByte ++ 34 :: y → b = d ∧ x = y
  | [], [], x, y, h => by simp at h; exact ⟨rfl, h⟩
  | [], e :: d, x, y, h => by
    exfalso
    obtain ⟨a, r, hr, ha⟩ := qByte_head e
    simp only [List.flatMap_nil, List.nil_append, List.flatMap_cons, hr, List.cons_append, List.cons.injEq] at h
    exact ha h.1.symm
  | e :: b, [], x, y, h => by
    exfalso
    obtain ⟨a, r, hr, ha⟩ := qByte_head e
    simp only [List.flatMap_nil, List.nil_append, List.flatMap_cons, hr, List.cons_append, List.cons.injEq] at h
    exact ha h.1
  | e :: b, g :: d, x, y, h => by
    simp only [List.flatMap_cons, List.append_assoc] at h
    obtain ⟨e1, h2⟩ := qByte_pre h
    subst e1
    obtain ⟨rfl, rfl⟩ := body_pre h2
    exact ⟨rfl, rfl⟩

theorem quoteR_pre {b d x y : List UInt8} (h : quoteR b ++ x = quoteR d ++ y) : b = d ∧ x = y := by
  simp only [quoteR, List.cons_append, List.append_assoc, List.nil_append, List.cons.injEq, true_and] at h
  exact body_pre h

/-! ### Values -/
/-- The sign with which a value's JSON begins. -/
def headOf (k : Int) (c : UInt8) : Prop :=
  (k = 0 ∧ c = 110) ∨ (k = 1 ∧ (c = 116 ∨ c = 102)) ∨ (k = 2 ∧ (c = 45 ∨ isDig c = true)) ∨ (k = 3 ∧ c = 34) ∨ (k = 4 ∧ c = 91) ∨ (k = 5 ∧ c = 123)

theorem headOf_one {k k' : Int} {c : UInt8} (h : headOf k c) (h' : headOf k' c) : k = k' := by
  have d : ∀ x : UInt8, x = 110 ∨ x = 116 ∨ x = 102 ∨ x = 45 ∨ x = 34 ∨ x = 91 ∨ x = 123 → isDig x = false := by
    rintro x (rfl | rfl | rfl | rfl | rfl | rfl | rfl) <;> decide
  unfold headOf at h h'
  rcases h with ⟨rfl, rfl⟩ | ⟨rfl, rfl | rfl⟩ | ⟨rfl, rfl | h⟩ | ⟨rfl, rfl⟩ | ⟨rfl, rfl⟩ | ⟨rfl, rfl⟩ <;>
    rcases h' with ⟨rfl, h'⟩ | ⟨rfl, h' | h'⟩ | ⟨rfl, h' | h'⟩ | ⟨rfl, h'⟩ | ⟨rfl, h'⟩ | ⟨rfl, h'⟩ <;>
    first | rfl | (exfalso; revert h'; decide) | (exfalso; rw [h'] at h; revert h; decide)

theorem encJ_head {v : JV} {d : Int} (h : treeV v d = true) : ∃ c r, encJ v = c :: r ∧ headOf v.kind c := by
  obtain ⟨k, n, s, l, f⟩ := v
  simp only [JV.kind]
  rw [treeV] at h
  split at h
  · cases h
  · rw [encJ]
    by_cases h0 : k = 0
    · rw [if_pos h0]; exact ⟨_, _, rfl, .inl ⟨h0, rfl⟩⟩
    rw [if_neg h0] at h ⊢
    by_cases h1 : k = 1
    · rw [if_pos h1]
      unfold boolV
      split
      · exact ⟨_, _, rfl, .inr (.inl ⟨h1, .inl rfl⟩)⟩
      · exact ⟨_, _, rfl, .inr (.inl ⟨h1, .inr rfl⟩)⟩
    rw [if_neg h1] at h ⊢
    by_cases h2 : k = 2
    · rw [if_pos h2]
      obtain ⟨c, r, e, hc⟩ := itoa_head n
      exact ⟨c, r, e, .inr (.inr (.inl ⟨h2, hc⟩))⟩
    rw [if_neg h2] at h ⊢
    by_cases h3 : k = 3
    · rw [if_pos h3]
      exact ⟨_, _, rfl, .inr (.inr (.inr (.inl ⟨h3, rfl⟩)))⟩
    rw [if_neg h3] at h ⊢
    by_cases h4 : k = 4
    · rw [if_pos h4]
      exact ⟨_, _, rfl, .inr (.inr (.inr (.inr (.inl ⟨h4, rfl⟩))))⟩
    rw [if_neg h4] at h ⊢
    by_cases h5 : k = 5
    · rw [if_pos h5]
      exact ⟨_, _, rfl, .inr (.inr (.inr (.inr (.inr ⟨h5, rfl⟩))))⟩
    rw [if_neg h5] at h
    cases h

theorem lists_pre {l : List JV} (d : Int) : ∀ {m : List JV} {i : Nat} {x y : List UInt8}, (∀ v ∈ l, ∀ w x y, treeV w d = true → noDig x → noDig y → encJ v ++ x = encJ w ++ y → v = w ∧ x = y) →
    (∀ v ∈ l, treeV v d = true) → (∀ w ∈ m, treeV w d = true) → encVs l i ++ 93 :: x = encVs m i ++ 93 :: y → l = m ∧ x = y := by
  have hsep : ∀ (l : List JV) (i : Nat) (x : List UInt8), 0 < i → noDig (encVs l i ++ 93 :: x) := by
    intro l i x hi
    cases l with
    | nil => simp only [encVs, List.nil_append, noDig]; decide
    | cons v l => simp only [encVs, if_pos hi, List.cons_append, List.nil_append, noDig]; decide
  have hne : ∀ (w : JV) (m : List JV) (i : Nat) (x y : List UInt8), treeV w d = true → 93 :: x ≠ encVs (w :: m) i ++ 93 :: y := by
    intro w m i x y hw h
    obtain ⟨c, r, hr, hc⟩ := encJ_head hw
    by_cases hi : 0 < i
    · simp only [encVs, if_pos hi, List.cons_append, List.nil_append, List.cons.injEq] at h
      exact absurd h.1 (by decide)
    · simp only [encVs, if_neg hi, List.cons_append, List.nil_append, hr, List.cons.injEq] at h
      rw [← h.1] at hc
      unfold headOf at hc
      revert hc
      have : isDig 93 = false := by decide
      rw [this]
      rintro (⟨_, h⟩ | ⟨_, h | h⟩ | ⟨_, h | h⟩ | ⟨_, h⟩ | ⟨_, h⟩ | ⟨_, h⟩) <;> revert h <;> decide
  induction l with
  | nil =>
    intro m i x y _ _ hm h
    cases m with
    | nil => simp [encVs] at h; exact ⟨rfl, h⟩
    | cons w m => exact absurd (by simpa [encVs] using h) (hne w m i x y (hm w (by simp)))
  | cons v l ih =>
    intro m i x y hinj hl hm h
    cases m with
    | nil => exact absurd (by simpa [encVs] using h.symm) (hne v l i y x (hl v (by simp)))
    | cons w m =>
      simp only [encVs, List.append_assoc] at h
      have h' := List.append_cancel_left h
      obtain ⟨rfl, h2⟩ := hinj v (by simp) w _ _ (hm w (by simp)) (hsep l (i + 1) x (by omega)) (hsep m (i + 1) y (by omega)) h'
      obtain ⟨rfl, h3⟩ := ih (fun v hv => hinj v (by simp [hv])) (fun v hv => hl v (by simp [hv])) (fun w hw => hm w (by simp [hw])) h2
      exact ⟨rfl, h3⟩

theorem pairs_pre {l : List (List UInt8 × JV)} (d : Int) : ∀ {m : List (List UInt8 × JV)} {i : Nat} {x y : List UInt8}, (∀ v ∈ l, ∀ w x y, treeV w d = true → noDig x → noDig y → encJ v.2 ++ x = encJ w ++ y → v.2 = w ∧ x = y) →
    (∀ v ∈ l, rightV v.1 = true) → (∀ w ∈ m, rightV w.1 = true) → (∀ w ∈ m, treeV w.2 d = true) → encPs l i ++ 125 :: x = encPs m i ++ 125 :: y → l = m ∧ x = y := by
  have hsep : ∀ (l : List (List UInt8 × JV)) (i : Nat) (x : List UInt8), 0 < i → noDig (encPs l i ++ 125 :: x) := by
    intro l i x hi
    cases l with
    | nil => simp only [encPs, List.nil_append, noDig]; decide
    | cons v l => simp only [encPs, if_pos hi, List.cons_append, List.nil_append, noDig]; decide
  have hne : ∀ (w : List UInt8 × JV) (m : List (List UInt8 × JV)) (i : Nat) (x y : List UInt8), 125 :: x ≠ encPs (w :: m) i ++ 125 :: y := by
    intro w m i x y h
    by_cases hi : 0 < i
    · simp only [encPs, if_pos hi, List.cons_append, List.nil_append, List.cons.injEq] at h
      exact absurd h.1 (by decide)
    · simp only [encPs, if_neg hi, List.cons_append, List.nil_append, quoteV, List.cons.injEq] at h
      exact absurd h.1 (by decide)
  induction l with
  | nil =>
    intro m i x y _ _ _ hm h
    cases m with
    | nil => simp [encPs] at h; exact ⟨rfl, h⟩
    | cons w m => exact absurd (by simpa [encPs] using h) (hne w m i x y)
  | cons v l ih =>
    intro m i x y hinj hl hr hm h
    cases m with
    | nil => exact absurd (by simpa [encPs] using h.symm) (hne v l i y x)
    | cons w m =>
      simp only [encPs, List.append_assoc] at h
      have h' := List.append_cancel_left h
      rw [quote_ref _ (hl v (by simp)), quote_ref _ (hr w (by simp))] at h'
      obtain ⟨e1, h'⟩ := quoteR_pre h'
      simp only [List.cons_append, List.nil_append, List.cons.injEq, true_and] at h'
      obtain ⟨e2, h2⟩ := hinj v (by simp) w.2 _ _ (hm w (by simp)) (hsep l (i + 1) x (by omega)) (hsep m (i + 1) y (by omega)) h'
      obtain ⟨rfl, h3⟩ := ih (fun v hv => hinj v (by simp [hv])) (fun v hv => hl v (by simp [hv])) (fun w hw => hr w (by simp [hw])) (fun w hw => hm w (by simp [hw])) h2
      obtain ⟨a, b⟩ := v
      obtain ⟨a', b'⟩ := w
      simp only at e1 e2
      subst e1 e2
      exact ⟨rfl, h3⟩

theorem enc_pre : ∀ (v w : JV) (d : Int) (x y : List UInt8), treeV v d = true → treeV w d = true → noDig x → noDig y → encJ v ++ x = encJ w ++ y → v = w ∧ x = y
  | .mk k n s l f, w, d, x, y, hv, hw, hx, hy, h => by
    obtain ⟨c, r, hr, hc⟩ := encJ_head hv
    obtain ⟨c', r', hr', hc'⟩ := encJ_head hw
    have hcc : c = c' := by
      rw [hr, hr'] at h
      simp only [List.cons_append, List.cons.injEq] at h
      exact h.1
    subst hcc
    have hk := headOf_one hc hc'
    obtain ⟨k', n', s', l', f'⟩ := w
    simp only [JV.kind] at hk
    subst hk
    have ihl : ∀ v ∈ l, ∀ w x y, treeV v (d - 1) = true → treeV w (d - 1) = true → noDig x → noDig y → encJ v ++ x = encJ w ++ y → v = w ∧ x = y := fun v hv w x y => enc_pre v w (d - 1) x y
    have ihf : ∀ v ∈ f, ∀ w x y, treeV v.2 (d - 1) = true → treeV w (d - 1) = true → noDig x → noDig y → encJ v.2 ++ x = encJ w ++ y → v.2 = w ∧ x = y := fun v hv w x y => enc_pre v.2 w (d - 1) x y
    rw [treeV] at hv hw
    split at hv
    · cases hv
    rename_i hu
    split at hw
    · cases hw
    rename_i hu'
    simp only [not_or, Bool.not_eq_false] at hu hu'
    have un := hu.2
    have un' := hu'.2
    unfold unusedV at un un'
    rw [encJ, encJ] at h
    by_cases h0 : k = 0
    · subst h0
      simp at un un' h
      grind
    rw [if_neg h0] at hv hw
    rw [if_neg h0, if_neg h0] at h
    by_cases h1 : k = 1
    · subst h1
      simp at un un' hv hw h
      unfold boolV at h
      grind
    rw [if_neg h1] at hv hw
    rw [if_neg h1, if_neg h1] at h
    by_cases h2 : k = 2
    · subst h2
      simp only [if_true] at h
      obtain ⟨rfl, rfl⟩ := itoa_pre hx hy h
      simp at un un'
      grind
    rw [if_neg h2] at hv hw
    rw [if_neg h2, if_neg h2] at h
    by_cases h3 : k = 3
    · subst h3
      simp only [if_true] at h hv hw
      rw [quote_ref _ hv, quote_ref _ hw] at h
      obtain ⟨rfl, rfl⟩ := quoteR_pre h
      simp at un un'
      grind
    rw [if_neg h3] at hv hw
    rw [if_neg h3, if_neg h3] at h
    by_cases h4 : k = 4
    · subst h4
      simp only [if_true] at h hv hw
      simp only [List.cons_append, List.append_assoc, List.nil_append, List.cons.injEq, true_and] at h
      obtain ⟨rfl, rfl⟩ := lists_pre (d - 1) (fun v hm w x y => ihl v hm w x y (treeVs_mem hv v hm)) (treeVs_mem hv) (treeVs_mem hw) h
      simp at un un'
      grind
    rw [if_neg h4] at hv hw
    rw [if_neg h4, if_neg h4] at h
    by_cases h5 : k = 5
    · subst h5
      simp only [if_true, Bool.and_eq_true] at h hv hw
      simp only [List.cons_append, List.append_assoc, List.nil_append, List.cons.injEq, true_and] at h
      obtain ⟨rfl, rfl⟩ := pairs_pre (d - 1) (fun v hm w x y => ihf v hm w x y (treePs_mem hv.2 v hm)) (keysV_mem hv.1) (keysV_mem hw.1) (treePs_mem hw.2) h
      simp at un un'
      grind
    rw [if_neg h5] at hv
    cases hv
termination_by v => SizeOf.sizeOf v
decreasing_by
  · have := List.sizeOf_lt_of_mem hv
    simp; omega
  · have := List.sizeOf_lt_of_mem hv
    obtain ⟨a, b⟩ := v
    simp at this ⊢; omega

theorem encJ_inj {v w : JV} {d : Int} (hv : treeV v d = true) (hw : treeV w d = true) (h : encJ v = encJ w) : v = w :=
  (enc_pre v w d [] [] hv hw trivial trivial (by simpa using h)).1

end Go.Proofs.YtjdppboomglenaaGreatDoor.Eng

/-
  The statement JsonOne, over values. No condition.
-/
namespace Go.Proofs.YtjdppboomglenaaGreatDoor.Eng
open Go
set_option linter.unusedSimpArgs false
set_option linter.unusedVariables false

attribute [local simp] evC_reg evC_regD evR_cons evR_nil runR_some regK_some evC_ret evC_skip evC_exit Out_seq Out_blk Out_some seqQ_norm seqQ_ret seqQ_exit blkQ_norm blkQ_ret blkQ_exit loopQ_norm loopQ_ret loopQ_exit
attribute [local simp] stepR evOp put upd_apply X.ev initEnv cells_agg cells_int cells_str cells_bool cells_sl cells_ptr cells_pnil cells_fn cells_map vc_length vc_take vc_plain vc_und toVs_plain toPs_plain toVs_und toPs_und takeN evBin isSh intBin strBin callK resOf packR fin V.plain plainL V.und undL scK kill dstsO dstsL dstsR ite_some ite_pair ite_vbool evUn evLoad evLen V.real finLoop_false quietK_false quietK_same kill_none

mutual
def sameV : JV → JV → Bool
  | .mk k n s l f, .mk k' n' s' l' f' => decide (k = k') && decide (n = n') && decide (s = s') && decide (l.length = l'.length) && decide (f.length = f'.length) && sameVs l l' && samePs f f'
def sameVs : List JV → List JV → Bool
  | v :: vs, w :: ws => sameV v w && sameVs vs ws
  | _, _ => true
def samePs : List (List UInt8 × JV) → List (List UInt8 × JV) → Bool
  | p :: ps, q :: qs => decide (p.1 = q.1) && sameV p.2 q.2 && samePs ps qs
  | _, _ => true
end

mutual
theorem sameV_iff : ∀ v w : JV, sameV v w = true ↔ v = w
  | .mk k n s l f, .mk k' n' s' l' f' => by
    have h1 := sameVs_iff l l'
    have h2 := samePs_iff f f'
    simp only [sameV, Bool.and_eq_true, decide_eq_true_eq, JV.mk.injEq]
    constructor
    · rintro ⟨⟨⟨⟨⟨⟨a, b⟩, c⟩, d⟩, e⟩, g⟩, h⟩
      exact ⟨a, b, c, (h1 d).1 g, (h2 e).1 h⟩
    · rintro ⟨rfl, rfl, rfl, rfl, rfl⟩
      exact ⟨⟨⟨⟨⟨⟨rfl, rfl⟩, rfl⟩, rfl⟩, rfl⟩, (h1 rfl).2 rfl⟩, (h2 rfl).2 rfl⟩
theorem sameVs_iff : ∀ l l' : List JV, l.length = l'.length → (sameVs l l' = true ↔ l = l')
  | [], [], _ => by simp [sameVs]
  | [], _ :: _, h => by simp at h
  | _ :: _, [], h => by simp at h
  | v :: vs, w :: ws, h => by
    have h1 := sameV_iff v w
    have h2 := sameVs_iff vs ws (by simpa using h)
    simp only [sameVs, Bool.and_eq_true, List.cons.injEq, h1, h2]
theorem samePs_iff : ∀ l l' : List (List UInt8 × JV), l.length = l'.length → (samePs l l' = true ↔ l = l')
  | [], [], _ => by simp [samePs]
  | [], _ :: _, h => by simp at h
  | _ :: _, [], h => by simp at h
  | p :: ps, q :: qs, h => by
    have h1 := sameV_iff p.2 q.2
    have h2 := samePs_iff ps qs (by simpa using h)
    obtain ⟨a, b⟩ := p
    obtain ⟨a', b'⟩ := q
    simp only [samePs, Bool.and_eq_true, decide_eq_true_eq, List.cons.injEq, Prod.mk.injEq, h1, h2]
end

theorem sameLoop0 (k nn : Int) (b : List UInt8) (L : List JV) (f : List (List UInt8 × JV)) (k' nn' : Int) (b' : List UInt8) (L' : List JV) (f' : List (List UInt8 × JV)) (id id' : Nat) (hL : L.length ≤ 9223372036854775807) (hLL : L.length = L'.length) (s : St)
    (h1 : s.obs[id]? = some (.cells 26 [.int .i64 k, .int .i64 nn, .str b, .sl .no (toVs L), .sl .no (toPs f)])) (h2 : s.obs[id']? = some (.cells 26 [.int .i64 k', .int .i64 nn', .str b', .sl .no (toVs L'), .sl .no (toPs f')]))
    (ih : ∀ x ∈ L, ∀ (w : JV) (s : St), call G 9 [toV x, toV w] s = some (.bool (sameV x w), s)) :
    ∀ (m i : Nat) (env : Env), L.length - i = m → i ≤ L.length → env 2 = .ptr id 0 → env 3 = .ptr id' 0 → env 5 = .int .i64 i →
      Out (evC G (.loop false af9l0) env s) (fun e env' s' => s' = s ∧ ((sameVs (L.drop i) (L'.drop i) = true ∧ e = .exit 0 ∧ env' 2 = .ptr id 0 ∧ env' 3 = .ptr id' 0) ∨ (sameVs (L.drop i) (L'.drop i) = false ∧ e = .ret ∧ env' 4 = .bool false))) := by
  intro m
  induction m with
  | zero =>
    intro i env hm hi g2 g3 g5
    have : i = L.length := by omega
    subst this
    refine Out_loop G false _ _ af9l0.eq_1 _ _ _ ?_
    simp [g2, g3, g5, h1, toVs_length]
    refine Out_cond _ _ _ _ _ _ _ rfl (fun h => by simp at h) (fun _ => ?_)
    simp [g2, g3, sameVs]
  | succ m ihm =>
    intro i env hm hi g2 g3 g5
    have hlt : i < L.length := by omega
    have hlt' : i < L'.length := by omega
    have hdr := List.drop_eq_getElem_cons hlt
    have hdr' := List.drop_eq_getElem_cons hlt'
    have hwi : IntKind.i64.wrap ((i : Int) + 1) = ((i + 1 : Nat) : Int) := by rw [wrap_in (by omega) (by omega)]; omega
    have hc := ih L[i] (List.getElem_mem hlt) L'[i] s
    refine Out_loop G false _ _ af9l0.eq_1 _ _ _ ?_
    simp [g2, g3, g5, h1, toVs_length]
    refine Out_cond _ _ _ _ _ _ _ rfl (fun _ => ?_) (fun h => by simp at h; omega)
    simp [g2, g3, g5, h1, h2, toVs_get, List.getElem?_eq_getElem hlt, List.getElem?_eq_getElem hlt', hc]
    refine Out_cond _ _ _ _ _ _ _ rfl (fun hr => ?_) (fun hr => ?_)
    · have hr' : sameV L[i] L'[i] = false := by simpa using hr
      rw [hdr, hdr', sameVs, hr']
      simp
    · have hr' : sameV L[i] L'[i] = true := by simpa using hr
      rw [hdr, hdr', sameVs, hr']
      simp [g5, hwi]
      exact ihm (i + 1) _ (by omega) (by omega) (by simp [g2]) (by simp [g3]) (by simp)

theorem sameLoop1 (k nn : Int) (b : List UInt8) (l : List JV) (L : List (List UInt8 × JV)) (k' nn' : Int) (b' : List UInt8) (l' : List JV) (L' : List (List UInt8 × JV)) (id id' : Nat) (hL : L.length ≤ 9223372036854775807) (hLL : L.length = L'.length) (s : St)
    (h1 : s.obs[id]? = some (.cells 26 [.int .i64 k, .int .i64 nn, .str b, .sl .no (toVs l), .sl .no (toPs L)])) (h2 : s.obs[id']? = some (.cells 26 [.int .i64 k', .int .i64 nn', .str b', .sl .no (toVs l'), .sl .no (toPs L')]))
    (ih : ∀ x ∈ L, ∀ (w : JV) (s : St), call G 9 [toV x.2, toV w] s = some (.bool (sameV x.2 w), s)) :
    ∀ (m i : Nat) (env : Env), L.length - i = m → i ≤ L.length → env 2 = .ptr id 0 → env 3 = .ptr id' 0 → env 6 = .int .i64 i →
      Out (evC G (.loop false af9l1) env s) (fun e env' s' => s' = s ∧ ((samePs (L.drop i) (L'.drop i) = true ∧ e = .exit 2) ∨ (samePs (L.drop i) (L'.drop i) = false ∧ e = .ret ∧ env' 4 = .bool false))) := by
  intro m
  induction m with
  | zero =>
    intro i env hm hi g2 g3 g5
    have : i = L.length := by omega
    subst this
    refine Out_loop G false _ _ af9l1.eq_1 _ _ _ ?_
    simp [g2, g3, g5, h1, toPs_length]
    refine Out_cond _ _ _ _ _ _ _ rfl (fun h => by simp at h) (fun _ => ?_)
    simp [samePs]
  | succ m ihm =>
    intro i env hm hi g2 g3 g5
    have hlt : i < L.length := by omega
    have hlt' : i < L'.length := by omega
    have hdr := List.drop_eq_getElem_cons hlt
    have hdr' := List.drop_eq_getElem_cons hlt'
    have hwi : IntKind.i64.wrap ((i : Int) + 1) = ((i + 1 : Nat) : Int) := by rw [wrap_in (by omega) (by omega)]; omega
    have hc := ih L[i] (List.getElem_mem hlt) L'[i].2 s
    rw [hdr, hdr']
    generalize hp : L[i] = p at *
    generalize hp' : L'[i] = p' at *
    obtain ⟨ka, x⟩ := p
    obtain ⟨kb, y⟩ := p'
    simp only [samePs] at hc ⊢
    refine Out_loop G false _ _ af9l1.eq_1 _ _ _ ?_
    simp [g2, g3, g5, h1, toPs_length]
    refine Out_cond _ _ _ _ _ _ _ rfl (fun _ => ?_) (fun h => by simp at h; omega)
    by_cases hk : ka = kb
    · simp [g2, g3, g5, h1, h2, toPs_get, List.getElem?_eq_getElem hlt, List.getElem?_eq_getElem hlt', hp, hp', hc, hk]
      refine Out_cond _ _ _ _ _ _ _ rfl (fun hr => ?_) (fun hr => ?_)
      · have hr' : sameV x y = false := by simpa using hr
        simp [hr']
      · have hr' : sameV x y = true := by simpa using hr
        simp [g5, hwi, hr']
        exact ihm (i + 1) _ (by omega) (by omega) (by simp [g2]) (by simp [g3]) (by simp)
    · simp [g2, g3, g5, h1, h2, toPs_get, List.getElem?_eq_getElem hlt, List.getElem?_eq_getElem hlt', hp, hp', hk]
      refine Out_cond _ _ _ _ _ _ _ rfl (fun hr => ?_) (fun hr => by simp at hr)
      simp [hk]

theorem same_spec : ∀ (v w : JV), v.ok → ∀ (s : St), call G 9 [toV v, toV w] s = some (.bool (sameV v w), s)
  | .mk k nn b l f, .mk k' nn' b' l' f', hok, s => by
    obtain ⟨_, _, hb, hl, hf, hokl, hokf⟩ := hok
    have ihl : ∀ x ∈ l, ∀ (w : JV) (s : St), call G 9 [toV x, toV w] s = some (.bool (sameV x w), s) := fun x hx w s => same_spec x w (okVs_mem hokl x hx) s
    have ihf : ∀ x ∈ f, ∀ (w : JV) (s : St), call G 9 [toV x.2, toV w] s = some (.bool (sameV x.2 w), s) := fun x hx w s => same_spec x.2 w (okPs_mem hokf x hx).2 s
    have ho1 : (s.obs ++ [AObj.cells 26 [.int .i64 k, .int .i64 nn, .str b, .sl .no (toVs l), .sl .no (toPs f)], AObj.cells 26 [.int .i64 k', .int .i64 nn', .str b', .sl .no (toVs l'), .sl .no (toPs f')]])[s.obs.length]? = some (.cells 26 [.int .i64 k, .int .i64 nn, .str b, .sl .no (toVs l), .sl .no (toPs f)]) := by simp
    have ho2 : (s.obs ++ [AObj.cells 26 [.int .i64 k, .int .i64 nn, .str b, .sl .no (toVs l), .sl .no (toPs f)], AObj.cells 26 [.int .i64 k', .int .i64 nn', .str b', .sl .no (toVs l'), .sl .no (toPs f')]])[s.obs.length + 1]? = some (.cells 26 [.int .i64 k', .int .i64 nn', .str b', .sl .no (toVs l'), .sl .no (toPs f')]) := by simp
    refine call_out (F := af9) rfl rfl ?_
    simp [af9, af9b, vc, toVs_length, toPs_length]
    refine Out_cond _ _ _ _ _ _ _ rfl (fun h => ?_) (fun h => ?_)
    · have hf' : sameV (.mk k nn b l f) (.mk k' nn' b' l' f') = false := by
        simp only [sameV]
        simp at h
        grind
      simp [hf']
    · have h' : k = k' ∧ nn = nn' ∧ b = b' ∧ l.length = l'.length ∧ f.length = f'.length := by
        simp at h
        grind
      obtain ⟨e1, e2, e3, e4, e5⟩ := h'
      have hs : sameV (.mk k nn b l f) (.mk k' nn' b' l' f') = (sameVs l l' && samePs f f') := by simp [sameV, e1, e2, e3, e4, e5]
      rw [hs]
      simp
      refine Out.mono (sameLoop0 k nn b l f k' nn' b' l' f' s.obs.length (s.obs.length + 1) hl e4 _ ho1 ho2 ihl l.length 0 _ (by omega) (by omega) (by simp) (by simp) (by simp)) ?_
      rintro e env s' ⟨rfl, ⟨g1, rfl, g2, g3⟩ | ⟨g1, rfl, g4⟩⟩
      · simp only [List.drop_zero] at g1
        simp
        refine Out.mono (sameLoop1 k nn b l f k' nn' b' l' f' s.obs.length (s.obs.length + 1) hf e5 _ ho1 ho2 ihf f.length 0 _ (by omega) (by omega) (by simp [g2]) (by simp [g3]) (by simp)) ?_
        rintro e env s' ⟨rfl, ⟨q1, rfl⟩ | ⟨q1, rfl, q4⟩⟩
        · simp only [List.drop_zero] at q1
          simp [g1, q1]
        · simp only [List.drop_zero] at q1
          simp [g1, q1, q4]
      · simp only [List.drop_zero] at g1
        simp [g1, g4]
termination_by v => SizeOf.sizeOf v
decreasing_by
  · have := List.sizeOf_lt_of_mem hx
    simp; omega
  · have := List.sizeOf_lt_of_mem hx
    obtain ⟨a, b⟩ := x
    simp at this ⊢; omega

end Go.Proofs.YtjdppboomglenaaGreatDoor.Eng
