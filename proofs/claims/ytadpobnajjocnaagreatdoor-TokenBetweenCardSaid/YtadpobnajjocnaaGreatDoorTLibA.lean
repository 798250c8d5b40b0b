/-
  JSON: what the functions do, one behind the other. No condition.
-/
import Derived.Test.YtadpobnajjocnaaGreatDoorJBase
import Derived.Test.YtadpobnajjocnaaGreatDoorEngS
import Derived.Lib.DecodeN
import Derived.Lib.RuneCountTail
/-
  Values of JSON, and what the evaluator makes of small functions over them: few. No condition.
-/
namespace Go.Proofs.YtadpobnajjocnaaGreatDoor.Eng
open Go
set_option linter.unusedSimpArgs false

inductive JV where
  | mk (kind n : Int) (s : List UInt8) (l : List JV) (f : List (List UInt8 × JV))

mutual
def vc : JV → List V
  | .mk k n s l f => [.int .i64 k, .int .i64 n, .str s, .sl .no (toVs l), .sl .no (toPs f)]
def toVs : List JV → List V
  | [] => []
  | v :: vs => .agg (vc v) :: toVs vs
def toPs : List (List UInt8 × JV) → List V
  | [] => []
  | p :: ps => .agg (.str p.1 :: vc p.2) :: toPs ps
end
/-- A value. -/
abbrev toV (v : JV) : V := .agg (vc v)
theorem vc_length (v : JV) : (vc v).length = 5 := by cases v; simp [vc]
theorem vc_take (v : JV) : (vc v).take 5 = vc v := List.take_of_length_le (by rw [vc_length]; omega)
mutual
theorem vc_plain : ∀ v : JV, plainL (vc v) = vc v
  | .mk k n s l f => by simp [vc, plainL, V.plain, toVs_plain l, toPs_plain f]
theorem toVs_plain : ∀ l : List JV, plainL (toVs l) = toVs l
  | [] => rfl
  | v :: vs => by simp [toVs, plainL, V.plain, vc_plain v, toVs_plain vs]
theorem toPs_plain : ∀ l : List (List UInt8 × JV), plainL (toPs l) = toPs l
  | [] => rfl
  | p :: ps => by simp [toPs, plainL, V.plain, vc_plain p.2, toPs_plain ps]
end
mutual
theorem vc_und : ∀ (v : JV) (n b : Nat), undL n b (vc v) = true
  | .mk k m s l f, n, b => by simp [vc, undL, V.und, toVs_und l n b, toPs_und f n b]
theorem toVs_und : ∀ (l : List JV) (n b : Nat), undL n b (toVs l) = true
  | [], _, _ => rfl
  | v :: vs, n, b => by simp [toVs, undL, V.und, vc_und v n b, toVs_und vs n b]
theorem toPs_und : ∀ (l : List (List UInt8 × JV)) (n b : Nat), undL n b (toPs l) = true
  | [], _, _ => rfl
  | p :: ps, n, b => by simp [toPs, undL, V.und, vc_und p.2 n b, toPs_und ps n b]
end
def JV.kind : JV → Int | .mk k _ _ _ _ => k
def JV.n : JV → Int | .mk _ n _ _ _ => n
def JV.s : JV → List UInt8 | .mk _ _ s _ _ => s
def JV.l : JV → List JV | .mk _ _ _ l _ => l
def JV.f : JV → List (List UInt8 × JV) | .mk _ _ _ _ f => f

theorem toVs_length (l : List JV) : (toVs l).length = l.length := by induction l <;> simp [toVs, *]
theorem toPs_length (l : List (List UInt8 × JV)) : (toPs l).length = l.length := by induction l <;> simp [toPs, *]
theorem toVs_get (l : List JV) (i : Nat) : (toVs l)[i]? = (l[i]?).map toV := by
  induction l generalizing i with
  | nil => simp [toVs]
  | cons x l ih => cases i <;> simp [toVs, ih]
theorem toPs_get (l : List (List UInt8 × JV)) (i : Nat) : (toPs l)[i]? = (l[i]?).map fun p => .agg (.str p.1 :: vc p.2) := by
  induction l generalizing i with
  | nil => simp [toPs]
  | cons x l ih => cases i <;> simp [toPs, ih]

/-! Numbers that an int64 holds; lengths that an int holds. -/
mutual
def JV.ok : JV → Prop
  | .mk k n s l f => (-9223372036854775808 ≤ k ∧ k ≤ 9223372036854775807) ∧ (-9223372036854775808 ≤ n ∧ n ≤ 9223372036854775807) ∧ s.length ≤ 9223372036854775807 ∧
    l.length ≤ 9223372036854775807 ∧ f.length ≤ 9223372036854775807 ∧ okVs l ∧ okPs f
def okVs : List JV → Prop
  | [] => True
  | v :: vs => v.ok ∧ okVs vs
def okPs : List (List UInt8 × JV) → Prop
  | [] => True
  | p :: ps => p.1.length ≤ 9223372036854775807 ∧ p.2.ok ∧ okPs ps
end
theorem okVs_mem {l : List JV} (h : okVs l) : ∀ v ∈ l, v.ok := by
  induction l with
  | nil => simp
  | cons x l ih => intro v hv; exact (List.mem_cons.1 hv).elim (fun e => e ▸ h.1) (fun hv => ih h.2 v hv)
theorem okPs_mem {l : List (List UInt8 × JV)} (h : okPs l) : ∀ p ∈ l, p.1.length ≤ 9223372036854775807 ∧ p.2.ok := by
  induction l with
  | nil => simp
  | cons x l ih => intro v hv; exact (List.mem_cons.1 hv).elim (fun e => e ▸ ⟨h.1, h.2.1⟩) (fun hv => ih h.2.2 v hv)

/-! ### few -/
mutual
def fewV : JV → Int → Int
  | .mk _ _ s l f, n => if n < 1 ∨ 500 < s.length then -1 else fewPs f (fewVs l (n - 1))
def fewVs : List JV → Int → Int
  | [], n => n
  | v :: vs, n => if 0 ≤ n then fewVs vs (fewV v n) else n
def fewPs : List (List UInt8 × JV) → Int → Int
  | [], n => n
  | p :: ps, n => if 0 ≤ n then if 500 < p.1.length then -1 else fewPs ps (fewV p.2 n) else n
end

attribute [local simp] evC_reg evR_cons evR_nil runR_some regK_some evC_ret evC_skip evC_exit Out_seq Out_blk Out_some seqQ_norm seqQ_ret seqQ_exit blkQ_norm blkQ_ret blkQ_exit loopQ_norm loopQ_ret loopQ_exit
attribute [local simp] stepR evOp put upd_apply X.ev initEnv cells_agg cells_int cells_str cells_bool cells_sl cells_ptr cells_pnil cells_fn cells_map vc_length vc_take vc_plain vc_und takeN evBin isSh intBin strBin callK resOf packR fin V.plain V.und scK kill dstsO dstsL dstsR ite_some ite_pair ite_vbool evUn evLoad evLen V.real finLoop_false quietK_false kill_none

mutual
theorem fewV_le : ∀ (v : JV) (n : Int), -1 ≤ fewV v n ∧ (0 ≤ n → fewV v n ≤ n)
  | .mk k nn s l f, n => by
    unfold fewV
    split
    · omega
    · have h1 := fewVs_le l (n - 1) (by omega)
      have h2 := fewPs_le f (fewVs l (n - 1)) (by omega)
      omega
theorem fewVs_le : ∀ (l : List JV) (n : Int), -1 ≤ n → -1 ≤ fewVs l n ∧ fewVs l n ≤ n
  | [], n, h => by simp [fewVs, h]
  | v :: vs, n, h => by
    unfold fewVs
    split
    · rename_i h0
      have h1 := fewV_le v n
      have h2 := fewVs_le vs (fewV v n) (by omega)
      omega
    · omega
theorem fewPs_le : ∀ (l : List (List UInt8 × JV)) (n : Int), -1 ≤ n → -1 ≤ fewPs l n ∧ fewPs l n ≤ n
  | [], n, h => by simp [fewPs, h]
  | p :: ps, n, h => by
    unfold fewPs
    split
    · split
      · omega
      · have h1 := fewV_le p.2 n
        have h2 := fewPs_le ps (fewV p.2 n) (by omega)
        omega
    · omega
end

end Go.Proofs.YtadpobnajjocnaaGreatDoor.Eng

/-
  Texts: what the evaluator makes of the reference's Size, Bad, Right and of the program's Bad, Right. No condition.
-/
namespace Go.Proofs.YtadpobnajjocnaaGreatDoor.Eng
open Go
set_option linter.unusedSimpArgs false
set_option linter.unusedVariables false

attribute [local simp] evC_reg evR_cons evR_nil runR_some regK_some evC_ret evC_skip evC_exit Out_seq Out_blk Out_some seqQ_norm seqQ_ret seqQ_exit blkQ_norm blkQ_ret blkQ_exit loopQ_norm loopQ_ret loopQ_exit
attribute [local simp] stepR evOp put upd_apply X.ev initEnv cells_agg cells_int cells_str cells_bool cells_sl cells_ptr cells_pnil cells_fn cells_map takeN evBin isSh intBin strBin callK resOf packR fin V.plain plainL V.und undL scK kill dstsO dstsL dstsR ite_some ite_pair ite_vbool evUn evLoad evLen V.real finLoop_false quietK_false kill_none

/-- The bytes behind the first of a rune. -/
def contV (b : List UInt8) (p n : Nat) : Nat → Nat → Nat → Option Nat
  | 0, _, v => some v
  | m + 1, i, v =>
    let d := (b.getD (p + i) 0).toNat
    if d < 128 ∨ 192 ≤ d then none else contV b p n m (i + 1) (v * 64 + d - 128)

theorem byte_lt (x : UInt8) : x.toNat < 256 := x.toNat_lt

theorem sizeLoop (b : List UInt8) (p n : Nat) (hb : b.length ≤ 9223372036854775807) (hpn : p + n ≤ b.length) (hn : n ≤ 4) (v9 : V) :
    ∀ (m i v : Nat) (env : Env) (s : St), n - i = m → i ≤ n → v < 64 ^ i → env 0 = .str b → env 1 = .int .i64 p → env 7 = .int .i64 n → env 8 = .int .i64 v → env 9 = v9 → env 10 = .int .i64 i →
      Out (evC G (.loop false af38l0) env s) (fun e env' s' => s' = s ∧ match contV b p n m i v with
        | some w => e = .exit 0 ∧ env' 8 = .int .i64 w ∧ env' 7 = .int .i64 n ∧ env' 9 = v9
        | none => e = .ret ∧ env' 4 = .int .i64 0 ∧ env' 5 = .int .i32 0) := by
  intro m
  induction m with
  | zero =>
    intro i v env s hm hi hv h0 h1 h7 h8 h9 h10
    have : i = n := by omega
    subst this
    refine Out_loop G false _ _ af38l0.eq_1 _ _ _ ?_
    simp [h7, h10]
    refine Out_cond _ _ _ _ _ _ _ rfl ?_ ?_
    · intro h; simp at h
    · intro _
      simp [h7, h8, h9, contV]
  | succ m ihm =>
    intro i v env s hm hi hv h0 h1 h7 h8 h9 h10
    have hlt : i < n := by omega
    refine Out_loop G false _ _ af38l0.eq_1 _ _ _ ?_
    simp [h7, h10]
    refine Out_cond _ _ _ _ _ _ _ rfl ?_ ?_
    · intro _
      have hx : b[p + i]? = some (b[p + i]'(by omega)) := List.getElem?_eq_getElem (by omega)
      have hg : b.getD (p + i) 0 = b[p + i]'(by omega) := by simp [List.getD, hx]
      have hd := byte_lt (b[p + i]'(by omega))
      generalize b[p + i]'(by omega) = x at *
      have hw1 : IntKind.i64.wrap ((p : Int) + i) = (p : Int) + i := wrap_in (by omega) (by omega)
      have ht : ((p : Int) + i).toNat = p + i := by omega
      have hge : (0 : Int) ≤ (p : Int) + i := by omega
      have hw2 : IntKind.i64.wrap (x.toNat : Int) = x.toNat := wrap_in (by omega) (by omega)
      have h4 : v ≤ 262144 := by
        have : 64 ^ i ≤ 64 ^ 3 := Nat.pow_le_pow_right (by omega) (by omega)
        omega
      simp only [contV, hg]
      simp [h0, h1, h7, h8, h9, h10, hw1, hx, hw2, ht, hge]
      refine Out_cond _ _ _ _ _ _ _ rfl ?_ ?_
      · intro h
        simp at h
        have hc : x.toNat < 128 ∨ 192 ≤ x.toNat := by omega
        simp [hc]
      · intro h
        simp at h
        have hc : ¬ (x.toNat < 128 ∨ 192 ≤ x.toNat) := by omega
        have e1 : IntKind.i64.wrap ((v : Int) * 64) = (v : Int) * 64 := wrap_in (by omega) (by omega)
        have e2 : IntKind.i64.wrap ((v : Int) * 64 + (x.toNat : Int)) = (v : Int) * 64 + x.toNat := wrap_in (by omega) (by omega)
        have e3 : IntKind.i64.wrap ((v : Int) * 64 + (x.toNat : Int) - 128) = ((v * 64 + x.toNat - 128 : Nat) : Int) := by rw [wrap_in (by omega) (by omega)]; omega
        have e4 : IntKind.i64.wrap ((i : Int) + 1) = ((i + 1 : Nat) : Int) := by rw [wrap_in (by omega) (by omega)]; omega
        simp only [Nat.not_lt, not_or, Nat.not_le] at hc
        simp [h8, h10, e1, e2, e3, e4, hc]
        have hlt' : v * 64 + x.toNat - 128 < 64 ^ (i + 1) := by rw [Nat.pow_succ]; omega
        rw [if_neg (by omega)]
        exact ihm (i + 1) (v * 64 + x.toNat - 128) _ s (by omega) (by omega) hlt' (by simp [h0]) (by simp [h1]) (by simp [h7]) (by simp) (by simp [h9]) (by simp)
    · intro h
      simp at h
      omega

theorem wrap32 {n : Int} (h0 : -2147483648 ≤ n) (h1 : n ≤ 2147483647) : IntKind.i32.wrap n = n := by
  have e : (2 : Int) ^ IntKind.i32.bits = 4294967296 := by decide
  have e' : (2 : Int) ^ (IntKind.i32.bits - 1) = 2147483648 := by decide
  have e'' : IntKind.i32.signed = true := by decide
  unfold IntKind.wrap
  simp only [e, e', e'', Bool.true_and, decide_eq_true_eq, ge_iff_le]
  split <;> omega

/-- A rune's bytes at a place, and the rune; 0: none begins there. -/
def sizeV (b : List UInt8) (p : Nat) : Nat × Nat :=
  let c := (b.getD p 0).toNat
  let go (n v least : Nat) : Nat × Nat :=
    if b.length < p + n then (0, 0) else
    match contV b p n (n - 1) 1 v with
    | none => (0, 0)
    | some w => if w < least ∨ 1114111 < w ∨ (55296 ≤ w ∧ w < 57344) then (0, 0) else (n, w)
  if c < 128 then (1, c)
  else if 194 ≤ c ∧ c < 224 then go 2 (c - 192) 128
  else if 224 ≤ c ∧ c < 240 then go 3 (c - 224) 2048
  else if 240 ≤ c ∧ c < 245 then go 4 (c - 240) 65536
  else (0, 0)

theorem size_spec (b : List UInt8) (p : Nat) (hb : b.length ≤ 9223372036854775807) (hp : p < b.length) (s : St) :
    call G 38 [.str b, .int .i64 p] s = some (.tup [.int .i64 (sizeV b p).1, .int .i32 (sizeV b p).2], s) := by
  have hx : b[p]? = some (b[p]'hp) := List.getElem?_eq_getElem hp
  have hg : b.getD p 0 = b[p]'hp := by simp [List.getD, hx]
  have hd := byte_lt (b[p]'hp)
  have ew2 : IntKind.i64.wrap (IntKind.i64.wrap ((b.length : Int) - 2) + 1) = (b.length : Int) - 2 + 1 := by
    rw [wrap_in (n := (b.length : Int) - 2) (by omega) (by omega), wrap_in (by omega) (by omega)]
  have ew3 : IntKind.i64.wrap (IntKind.i64.wrap ((b.length : Int) - 3) + 1) = (b.length : Int) - 3 + 1 := by
    rw [wrap_in (n := (b.length : Int) - 3) (by omega) (by omega), wrap_in (by omega) (by omega)]
  have ew4 : IntKind.i64.wrap (IntKind.i64.wrap ((b.length : Int) - 4) + 1) = (b.length : Int) - 4 + 1 := by
    rw [wrap_in (n := (b.length : Int) - 4) (by omega) (by omega), wrap_in (by omega) (by omega)]
  generalize b[p]'hp = x at *
  have hw2 : IntKind.i64.wrap (x.toNat : Int) = x.toNat := wrap_in (by omega) (by omega)
  refine call_out (F := af38) rfl rfl ?_
  simp [af38, af38b, hx, hw2]
  refine Out_cond _ _ _ _ _ _ _ rfl ?_ ?_
  · intro h
    simp at h
    have hc0 : x.toNat < 128 := by omega
    have e32 : IntKind.i32.wrap (x.toNat : Int) = x.toNat := wrap32 (by omega) (by omega)
    simp [e32, sizeV, hx, hc0]
  · intro h
    simp at h
    have hc0 : ¬ x.toNat < 128 := by omega
    simp
    refine Out_cond _ _ _ _ _ _ _ rfl ?_ ?_
    · intro h2
      simp at h2
      have h2a : 194 ≤ x.toNat := by omega
      have h2b : x.toNat < 224 := by omega
      have ev : IntKind.i64.wrap ((x.toNat : Int) - 192) = ((x.toNat - 192 : Nat) : Int) := by rw [wrap_in (by omega) (by omega)]; omega
      simp [ev]
      refine Out_cond _ _ _ _ _ _ _ rfl (fun h3 => by simp at h3; omega) (fun _ => ?_)
      simp
      refine Out_cond _ _ _ _ _ _ _ rfl (fun h3 => by simp at h3; omega) (fun _ => ?_)
      simp
      refine Out_cond _ _ _ _ _ _ _ rfl ?_ ?_
      · intro hp
        simp at hp
        have hp' : b.length < p + 2 := by
          rw [ew2] at hp
          omega
        simp [sizeV, hx, hc0, h2a, h2b, hp']
      · intro hp
        simp at hp
        have hp' : ¬ (b.length < p + 2) := by
          rw [ew2] at hp
          omega
        have hpn : p + 2 ≤ b.length := by
          rw [ew2] at hp
          omega
        simp
        refine (sizeLoop b p 2 hb hpn (by omega) (.int .i64 128) 1 1 (x.toNat - 192) _ _ (by omega) (by omega) (by simp; omega) (by simp) (by simp) (by simp) (by simp) (by simp) (by simp)).mono ?_
        rintro e env s' ⟨rfl, hq⟩
        cases hcv : contV b p 2 1 1 (x.toNat - 192) with
        | none =>
          rw [hcv] at hq
          obtain ⟨rfl, q4, q5⟩ := hq
          simp [q4, q5, sizeV, hx, hc0, h2a, h2b, hp', hcv]
        | some w =>
          rw [hcv] at hq
          obtain ⟨rfl, q8, q7, q9⟩ := hq
          simp [q8, q7, q9]
          refine Out_cond _ _ _ _ _ _ _ rfl ?_ ?_
          · intro hw
            simp at hw
            have hw' : w < 128 ∨ 1114111 < w ∨ (55296 ≤ w ∧ w < 57344) := by omega
            simp [sizeV, hx, hc0, h2a, h2b, hp', hcv, hw']
          · intro hw
            simp at hw
            have hw' : ¬ (w < 128 ∨ 1114111 < w ∨ (55296 ≤ w ∧ w < 57344)) := by omega
            have e32 : IntKind.i32.wrap (w : Int) = w := wrap32 (by omega) (by omega)
            simp [q7, q8, e32, sizeV, hx, hc0, h2a, h2b, hp', hcv, hw']
    · intro h2
      simp at h2
      have n2 : ¬ (194 ≤ x.toNat ∧ x.toNat < 224) := by omega
      simp
      refine Out_cond _ _ _ _ _ _ _ rfl ?_ ?_
      · intro h3
        simp at h3
        have h3a : 224 ≤ x.toNat := by omega
        have h3b : x.toNat < 240 := by omega
        have ev : IntKind.i64.wrap ((x.toNat : Int) - 224) = ((x.toNat - 224 : Nat) : Int) := by rw [wrap_in (by omega) (by omega)]; omega
        simp [ev]
        refine Out_cond _ _ _ _ _ _ _ rfl (fun h3 => by simp at h3; omega) (fun _ => ?_)
        simp
        refine Out_cond _ _ _ _ _ _ _ rfl ?_ ?_
        · intro hp
          simp at hp
          have hp' : b.length < p + 3 := by
            rw [ew3] at hp
            omega
          simp [sizeV, hx, hc0, n2, h3a, h3b, hp']
        · intro hp
          simp at hp
          have hp' : ¬ (b.length < p + 3) := by
            rw [ew3] at hp
            omega
          have hpn : p + 3 ≤ b.length := by
            rw [ew3] at hp
            omega
          simp
          refine (sizeLoop b p 3 hb hpn (by omega) (.int .i64 2048) 2 1 (x.toNat - 224) _ _ (by omega) (by omega) (by simp; omega) (by simp) (by simp) (by simp) (by simp) (by simp) (by simp)).mono ?_
          rintro e env s' ⟨rfl, hq⟩
          cases hcv : contV b p 3 2 1 (x.toNat - 224) with
          | none =>
            rw [hcv] at hq
            obtain ⟨rfl, q4, q5⟩ := hq
            simp [q4, q5, sizeV, hx, hc0, n2, h3a, h3b, hp', hcv]
          | some w =>
            rw [hcv] at hq
            obtain ⟨rfl, q8, q7, q9⟩ := hq
            simp [q8, q7, q9]
            refine Out_cond _ _ _ _ _ _ _ rfl ?_ ?_
            · intro hw
              simp at hw
              have hw' : w < 2048 ∨ 1114111 < w ∨ (55296 ≤ w ∧ w < 57344) := by omega
              simp [sizeV, hx, hc0, n2, h3a, h3b, hp', hcv, hw']
            · intro hw
              simp at hw
              have hw' : ¬ (w < 2048 ∨ 1114111 < w ∨ (55296 ≤ w ∧ w < 57344)) := by omega
              have e32 : IntKind.i32.wrap (w : Int) = w := wrap32 (by omega) (by omega)
              simp [q7, q8, e32, sizeV, hx, hc0, n2, h3a, h3b, hp', hcv, hw']
      · intro h3
        simp at h3
        have n3 : ¬ (224 ≤ x.toNat ∧ x.toNat < 240) := by omega
        simp
        refine Out_cond _ _ _ _ _ _ _ rfl ?_ ?_
        · intro h4
          simp at h4
          have h4a : 240 ≤ x.toNat := by omega
          have h4b : x.toNat < 245 := by omega
          have ev : IntKind.i64.wrap ((x.toNat : Int) - 240) = ((x.toNat - 240 : Nat) : Int) := by rw [wrap_in (by omega) (by omega)]; omega
          simp [ev]
          refine Out_cond _ _ _ _ _ _ _ rfl ?_ ?_
          · intro hp
            simp at hp
            have hp' : b.length < p + 4 := by
              rw [ew4] at hp
              omega
            simp [sizeV, hx, hc0, n2, n3, h4a, h4b, hp']
          · intro hp
            simp at hp
            have hp' : ¬ (b.length < p + 4) := by
              rw [ew4] at hp
              omega
            have hpn : p + 4 ≤ b.length := by
              rw [ew4] at hp
              omega
            simp
            refine (sizeLoop b p 4 hb hpn (by omega) (.int .i64 65536) 3 1 (x.toNat - 240) _ _ (by omega) (by omega) (by simp; omega) (by simp) (by simp) (by simp) (by simp) (by simp) (by simp)).mono ?_
            rintro e env s' ⟨rfl, hq⟩
            cases hcv : contV b p 4 3 1 (x.toNat - 240) with
            | none =>
              rw [hcv] at hq
              obtain ⟨rfl, q4, q5⟩ := hq
              simp [q4, q5, sizeV, hx, hc0, n2, n3, h4a, h4b, hp', hcv]
            | some w =>
              rw [hcv] at hq
              obtain ⟨rfl, q8, q7, q9⟩ := hq
              simp [q8, q7, q9]
              refine Out_cond _ _ _ _ _ _ _ rfl ?_ ?_
              · intro hw
                simp at hw
                have hw' : w < 65536 ∨ 1114111 < w ∨ (55296 ≤ w ∧ w < 57344) := by omega
                simp [sizeV, hx, hc0, n2, n3, h4a, h4b, hp', hcv, hw']
              · intro hw
                simp at hw
                have hw' : ¬ (w < 65536 ∨ 1114111 < w ∨ (55296 ≤ w ∧ w < 57344)) := by omega
                have e32 : IntKind.i32.wrap (w : Int) = w := wrap32 (by omega) (by omega)
                simp [q7, q8, e32, sizeV, hx, hc0, n2, n3, h4a, h4b, hp', hcv, hw']
        · intro h4
          simp at h4
          have n4 : ¬ (240 ≤ x.toNat ∧ x.toNat < 245) := by omega
          simp
          refine Out_cond _ _ _ _ _ _ _ rfl (fun _ => ?_) (fun h5 => by simp at h5)
          simp [sizeV, hx, hc0, n2, n3, n4]

theorem sizeV_le (b : List UInt8) (p : Nat) (hp : p < b.length) : (sizeV b p).1 ≤ 4 ∧ p + (sizeV b p).1 ≤ b.length ∧ (sizeV b p).2 ≤ 1114111 := by
  unfold sizeV
  have hd := byte_lt (b.getD p 0)
  generalize b.getD p 0 = x at *
  have go : ∀ n v least, n ≤ 4 → (if b.length < p + n then (0, 0) else match contV b p n (n - 1) 1 v with
    | none => (0, 0)
    | some w => if w < least ∨ 1114111 < w ∨ (55296 ≤ w ∧ w < 57344) then (0, 0) else (n, w) : Nat × Nat).1 ≤ 4 ∧
    p + (if b.length < p + n then (0, 0) else match contV b p n (n - 1) 1 v with
    | none => (0, 0)
    | some w => if w < least ∨ 1114111 < w ∨ (55296 ≤ w ∧ w < 57344) then (0, 0) else (n, w) : Nat × Nat).1 ≤ b.length ∧ (if b.length < p + n then (0, 0) else match contV b p n (n - 1) 1 v with
    | none => (0, 0)
    | some w => if w < least ∨ 1114111 < w ∨ (55296 ≤ w ∧ w < 57344) then (0, 0) else (n, w) : Nat × Nat).2 ≤ 1114111 := by
    intro n v least hn
    split
    · simp; omega
    · split
      · simp; omega
      · split
        · simp; omega
        · simp; omega
  simp only
  split
  · simp; omega
  · split
    · exact go 2 _ _ (by omega)
    · split
      · exact go 3 _ _ (by omega)
      · split
        · exact go 4 _ _ (by omega)
        · simp; omega

/-- Where no rune begins; -1. -/
def badV (b : List UInt8) : Nat → Nat → Int
  | 0, _ => -1
  | f + 1, p => if p < b.length then if (sizeV b p).1 = 0 then p else badV b f (p + (sizeV b p).1) else -1

theorem badV_ge (b : List UInt8) : ∀ f p, -1 ≤ badV b f p
  | 0, p => by simp [badV]
  | f + 1, p => by
    unfold badV
    split
    · split
      · omega
      · exact badV_ge b f _
    · omega

/-! ### The program's -/
theorem nxt_at (b : List UInt8) (pos id : Nat) (s : St) (h : s.obs[id]? = some (.iter b pos)) (hp : pos < b.length) :
    evNxt (.itr id) s = some (.tup [.bool true, .int .i64 pos, .int .i32 (Utf8.decode ⟨b.toArray⟩ pos).1], { s with obs := s.obs.set id (.iter b (pos + (Utf8.decode ⟨b.toArray⟩ pos).2)) }) := by
  simp only [evNxt, h, if_pos hp]
theorem nxt_end (b : List UInt8) (pos id : Nat) (s : St) (h : s.obs[id]? = some (.iter b pos)) (hp : ¬ pos < b.length) :
    evNxt (.itr id) s = some (.tup [.bool false], s) := by
  simp only [evNxt, h, if_neg hp]

theorem dec_spec (b : List UInt8) (s : St) : call G 25 [.str b] s = some (.tup [.int .i32 (Lib.decodeGo ⟨b.toArray⟩).1, .int .i64 (Lib.decodeGo ⟨b.toArray⟩).2], s) := by
  rw [call_eq]
  rfl

/-- A rune at a place, as Go's range decodes it. -/
def decV (b : List UInt8) (p : Nat) : Nat × Nat := Utf8.decode ⟨b.toArray⟩ p

theorem decV_le (b : List UInt8) (p : Nat) (hp : p < b.length) : 1 ≤ (decV b p).2 ∧ p + (decV b p).2 ≤ b.length ∧ (decV b p).1 ≤ 1114111 := by
  unfold decV
  rw [Lib.decode_at]
  have hs : (⟨b.toArray⟩ : ByteArray).size = b.length := rfl
  rw [hs]
  generalize ((⟨b.toArray⟩ : ByteArray).get! p).toNat = b0
  generalize ((⟨b.toArray⟩ : ByteArray).get! (p + 1)).toNat = b1
  generalize ((⟨b.toArray⟩ : ByteArray).get! (p + 2)).toNat = b2
  generalize ((⟨b.toArray⟩ : ByteArray).get! (p + 3)).toNat = b3
  unfold Lib.decodeN
  repeat' split
  all_goals (simp only; omega)

def textBadV (b : List UInt8) : Nat → Nat → Int
  | 0, _ => -1
  | f + 1, p =>
    if p < b.length then
      if (decV b p).1 ≠ 65533 then textBadV b f (p + (decV b p).2)
      else if (Lib.decodeGo ⟨(b.drop p).toArray⟩).2 = 1 then p
      else textBadV b f (p + (decV b p).2)
    else -1

theorem textBadLoop (b : List UInt8) (hb : b.length ≤ 9223372036854775807) (id : Nat) : ∀ (f p : Nat) (env : Env) (s : St), p ≤ b.length → b.length < p + f → env 0 = .str b → env 8 = .itr id → s.obs[id]? = some (.iter b p) →
    Out (evC G (.loop false af15l0) env s) (fun e env' s' => (s'.bufs = s.bufs ∧ ∃ o, s'.obs = s.obs.set id o) ∧
      ((textBadV b f p = -1 ∧ e = .exit 0) ∨ (textBadV b f p ≠ -1 ∧ e = .ret ∧ env' 2 = .int .i64 (textBadV b f p)))) := by
  intro f
  induction f with
  | zero => intro p env s h1 h2; omega
  | succ f ih =>
    intro p env s hp hf h0 h8 hs
    refine Out_loop G false _ _ af15l0.eq_1 _ _ _ ?_
    by_cases hlt : p < b.length
    · have hd := decV_le b p hlt
      have hid : id < s.obs.length := lt_of_get hs
      simp [h0, h8, nxt_at b p id s hs hlt]
      refine Out_cond _ _ _ _ _ _ _ rfl (fun _ => ?_) (fun h => by cases h)
      simp
      have hnext : ∀ (env' : Env), env' 0 = .str b → env' 8 = .itr id →
          Out (evC G (.loop false af15l0) env' { obs := s.obs.set id (.iter b (p + (decV b p).2)), bufs := s.bufs }) (fun e env' s' => (s'.bufs = s.bufs ∧ ∃ o, s'.obs = s.obs.set id o) ∧
            ((textBadV b f (p + (decV b p).2) = -1 ∧ e = .exit 0) ∨ (textBadV b f (p + (decV b p).2) ≠ -1 ∧ e = .ret ∧ env' 2 = .int .i64 (textBadV b f (p + (decV b p).2))))) := by
        intro env' g0 g8
        refine (ih (p + (decV b p).2) env' _ (by omega) (by omega) g0 g8 (by simp [hid])).mono ?_
        rintro e env'' s' ⟨⟨g1, o, g2⟩, g3⟩
        refine ⟨⟨g1, o, ?_⟩, g3⟩
        rw [g2]
        simp
      refine Out_cond _ _ _ _ _ _ _ rfl ?_ ?_
      · intro h
        have hne : (decV b p).1 ≠ 65533 := by
          intro e
          unfold decV at e
          simp [e] at h
        simp
        simp only [textBadV, if_pos hlt, if_pos hne]
        exact hnext _ (by simp [h0]) (by simp [h8])
      · intro h
        have heq : (decV b p).1 = 65533 := by
          simp at h
          unfold decV
          omega
        simp [h0, evSlcS, bnd, dec_spec, hp]
        refine Out_cond _ _ _ _ _ _ _ rfl ?_ ?_
        · intro h1
          simp at h1
          have h1' : (Lib.decodeGo ⟨(b.drop p).toArray⟩).2 = 1 := by omega
          have hv : textBadV b (f + 1) p = p := by simp [textBadV, hlt, heq, h1']
          simp [hv]
          exact ⟨_, rfl⟩
        · intro h1
          simp at h1
          have h1' : ¬ (Lib.decodeGo ⟨(b.drop p).toArray⟩).2 = 1 := by omega
          have hv : textBadV b (f + 1) p = textBadV b f (p + (decV b p).2) := by simp [textBadV, hlt, heq, h1']
          simp
          rw [hv]
          exact hnext _ (by simp [h0]) (by simp [h8])
    · simp [h0, h8, nxt_end b p id s hs hlt]
      refine Out_cond _ _ _ _ _ _ _ rfl (fun h => by cases h) (fun _ => ?_)
      simp [textBadV, hlt]
      exact ⟨.iter b p, by
        apply List.ext_getElem?
        intro j
        by_cases hj : id = j
        · subst hj; rw [List.getElem?_set_self (lt_of_get hs), hs]
        · rw [List.getElem?_set_ne hj]⟩

theorem textBad_spec (b : List UInt8) (hb : b.length ≤ 9223372036854775807) (s : St) : call G 15 [.str b] s = some (.int .i64 (textBadV b (b.length + 1) 0), s) := by
  refine call_out (F := af15) rfl rfl ?_
  simp [af15, af15b]
  refine (textBadLoop b hb s.obs.length (b.length + 1) 0 _ _ (by omega) (by omega) (by simp) (by simp) (by simp)).mono ?_
  rintro e env s' ⟨⟨hbf, o, hob⟩, ⟨h1, rfl⟩ | ⟨h1, rfl, h2⟩⟩
  · simp [h1, hbf, hob, List.set_append]
  · simp [h2, hbf, hob, List.set_append]

theorem textRight_spec (b : List UInt8) (hb : b.length ≤ 9223372036854775807) (s : St) : call G 64 [.str b] s = some (.bool (decide (textBadV b (b.length + 1) 0 < 0)), s) := by
  refine call_out (F := af64) rfl rfl ?_
  simp [af64, af64b, textBad_spec b hb]

/-! ### They are one -/
theorem get!_list (b : List UInt8) (p : Nat) : (⟨b.toArray⟩ : ByteArray).get! p = b.getD p 0 := by
  have := Lib.getD_get!' ⟨b.toArray⟩ p
  simpa using this.symm

theorem sizeV_dec (b : List UInt8) (p : Nat) (hp : p < b.length) : sizeV b p = if decV b p = (65533, 1) then (0, 0) else ((decV b p).2, (decV b p).1) := by
  unfold decV sizeV
  rw [Lib.decode_at]
  have hs : (⟨b.toArray⟩ : ByteArray).size = b.length := rfl
  rw [hs]
  simp only [get!_list, contV]
  have e1 := byte_lt (b.getD p 0)
  have e2 := byte_lt (b.getD (p + 1) 0)
  have e3 := byte_lt (b.getD (p + 2) 0)
  have e4 := byte_lt (b.getD (p + 3) 0)
  generalize (b.getD p 0).toNat = b0 at *
  generalize (b.getD (p + 1) 0).toNat = b1 at *
  generalize (b.getD (p + 1 + 1) 0).toNat = b2 at *
  generalize (b.getD (p + 3) 0).toNat = b3 at *
  generalize b.length = n at *
  have n1 : (1 < n - p) = ¬ (n < p + 2) := propext ⟨fun h => by omega, fun h => by omega⟩
  have n2 : (2 < n - p) = ¬ (n < p + 3) := propext ⟨fun h => by omega, fun h => by omega⟩
  have n3 : (3 < n - p) = ¬ (n < p + 4) := propext ⟨fun h => by omega, fun h => by omega⟩
  have d1 : (b1 / 64 = 2) = ¬ (b1 < 128 ∨ 192 ≤ b1) := propext ⟨fun h => by omega, fun h => by omega⟩
  have d2 : (b2 / 64 = 2) = ¬ (b2 < 128 ∨ 192 ≤ b2) := propext ⟨fun h => by omega, fun h => by omega⟩
  have d3 : (b3 / 64 = 2) = ¬ (b3 < 128 ∨ 192 ≤ b3) := propext ⟨fun h => by omega, fun h => by omega⟩
  by_cases c0 : b0 < 128
  · simp only [if_pos c0, Lib.decodeN]
    simp
    omega
  · simp only [if_neg c0, Lib.decodeN, n1, n2, n3, d1, d2, d3]
    by_cases k2 : 194 ≤ b0 ∧ b0 < 224
    · have q1 : b0 / 32 = 6 := by omega
      have q2 : ¬ b0 / 16 = 14 := by omega
      have q3 : ¬ b0 / 8 = 30 := by omega
      simp only [if_pos k2, q1, q2, q3, true_and, false_and, if_false]
      by_cases m2 : n < p + 2
      · simp [m2]
      · by_cases c1 : b1 < 128 ∨ 192 ≤ b1
        · simp [m2, c1]
        · have hv : b0 % 32 * 64 + b1 % 64 = (b0 - 192) * 64 + b1 - 128 := by omega
          have h1 : 128 ≤ (b0 - 192) * 64 + b1 - 128 := by omega
          have h2 : ¬ ((b0 - 192) * 64 + b1 - 128 < 128 ∨ 1114111 < (b0 - 192) * 64 + b1 - 128 ∨ 55296 ≤ (b0 - 192) * 64 + b1 - 128 ∧ (b0 - 192) * 64 + b1 - 128 < 57344) := by omega
          simp only [if_neg m2, if_neg c1, hv, ge_iff_le, if_pos h1, if_neg h2, m2, c1, not_false_eq_true, and_self, if_true, if_false]
          simp
          try omega
    · simp only [if_neg k2]
      by_cases k3 : 224 ≤ b0 ∧ b0 < 240
      · have q1 : ¬ b0 / 32 = 6 := by omega
        have q2 : b0 / 16 = 14 := by omega
        have q3 : ¬ b0 / 8 = 30 := by omega
        simp only [if_pos k3, q1, q2, q3, true_and, false_and, if_false]
        by_cases m2 : n < p + 3
        · simp [m2]
        · have m1 : ¬ n < p + 2 := by omega
          by_cases c1 : b1 < 128 ∨ 192 ≤ b1
          · simp [m2, c1]
          · by_cases c2 : b2 < 128 ∨ 192 ≤ b2
            · simp [m2, c1, c2]
            · have hv : b0 % 16 * 4096 + b1 % 64 * 64 + b2 % 64 = ((b0 - 224) * 64 + b1 - 128) * 64 + b2 - 128 := by omega
              simp only [if_neg m2, if_neg c1, if_neg c2, hv, m1, m2, c1, c2, not_false_eq_true, and_self, if_true, if_false]
              generalize ((b0 - 224) * 64 + b1 - 128) * 64 + b2 - 128 = w at *
              by_cases hw : w < 2048 ∨ 1114111 < w ∨ 55296 ≤ w ∧ w < 57344
              · have hc : ¬ (w ≥ 2048 ∧ (w < 55296 ∨ 57344 ≤ w ∧ w ≤ 1114111)) := by omega
                simp only [if_pos hw, if_neg hc, if_true]
              · have hc : w ≥ 2048 ∧ (w < 55296 ∨ 57344 ≤ w ∧ w ≤ 1114111) := by omega
                have hx : ¬ ((w, 3) : Nat × Nat) = (65533, 1) := by simp
                simp only [if_neg hw, if_pos hc, if_neg hx]
      · simp only [if_neg k3]
        by_cases k4 : 240 ≤ b0 ∧ b0 < 245
        · have q1 : ¬ b0 / 32 = 6 := by omega
          have q2 : ¬ b0 / 16 = 14 := by omega
          have q3 : b0 / 8 = 30 := by omega
          simp only [if_pos k4, q1, q2, q3, true_and, false_and, if_false]
          by_cases m2 : n < p + 4
          · simp [m2]
          · have m1 : ¬ n < p + 2 := by omega
            have m3 : ¬ n < p + 3 := by omega
            by_cases c1 : b1 < 128 ∨ 192 ≤ b1
            · simp [m2, c1]
            · by_cases c2 : b2 < 128 ∨ 192 ≤ b2
              · simp [m2, c1, c2]
              · by_cases c3 : b3 < 128 ∨ 192 ≤ b3
                · simp [m2, c1, c2, c3]
                · have hv : b0 % 8 * 262144 + b1 % 64 * 4096 + b2 % 64 * 64 + b3 % 64 = (((b0 - 240) * 64 + b1 - 128) * 64 + b2 - 128) * 64 + b3 - 128 := by omega
                  simp only [if_neg m2, if_neg c1, if_neg c2, if_neg c3, hv, m1, m2, m3, c1, c2, c3, not_false_eq_true, and_self, if_true, if_false]
                  generalize (((b0 - 240) * 64 + b1 - 128) * 64 + b2 - 128) * 64 + b3 - 128 = w at *
                  by_cases hw : w < 65536 ∨ 1114111 < w ∨ 55296 ≤ w ∧ w < 57344
                  · have hc : ¬ (w ≥ 65536 ∧ (w < 55296 ∨ 57344 ≤ w ∧ w ≤ 1114111)) := by omega
                    simp only [if_pos hw, if_neg hc, if_true]
                  · have hc : w ≥ 65536 ∧ (w < 55296 ∨ 57344 ≤ w ∧ w ≤ 1114111) := by omega
                    have hx : ¬ ((w, 4) : Nat × Nat) = (65533, 1) := by simp
                    simp only [if_neg hw, if_pos hc, if_neg hx]
        · simp only [if_neg k4]
          have q2 : ¬ b0 / 16 = 14 := by omega
          simp only [q2, false_and, if_false]
          have r1 : b0 / 32 = 6 → ¬ (b0 % 32 * 64 + b1 % 64 ≥ 128) := by omega
          have r2 : b0 / 8 = 30 → ¬ (b0 % 8 * 262144 + b1 % 64 * 4096 + b2 % 64 * 64 + b3 % 64 ≥ 65536 ∧
            (b0 % 8 * 262144 + b1 % 64 * 4096 + b2 % 64 * 64 + b3 % 64 < 55296 ∨ 57344 ≤ b0 % 8 * 262144 + b1 % 64 * 4096 + b2 % 64 * 64 + b3 % 64 ∧ b0 % 8 * 262144 + b1 % 64 * 4096 + b2 % 64 * 64 + b3 % 64 ≤ 1114111)) := by omega
          by_cases q1 : b0 / 32 = 6
          · have q3 : ¬ b0 / 8 = 30 := by omega
            simp only [q1, q3, if_neg (r1 q1), true_and, false_and, if_false, ite_self, if_true]
          · by_cases q3 : b0 / 8 = 30
            · simp only [q1, q3, if_neg (r2 q3), true_and, false_and, if_false, ite_self, if_true]
            · simp only [q1, q3, true_and, false_and, if_false, ite_self, if_true]

theorem decGo_drop (b : List UInt8) (p : Nat) (hp : p < b.length) : Lib.decodeGo ⟨(b.drop p).toArray⟩ = decV b p := by
  have hs : (⟨(b.drop p).toArray⟩ : ByteArray).size = b.length - p := by
    show (b.drop p).toArray.size = _
    simp
  have hs2 : (⟨b.toArray⟩ : ByteArray).size = b.length := rfl
  unfold Lib.decodeGo decV
  rw [if_neg (by omega), Lib.decode_at, Lib.decode_at, hs, hs2]
  simp only [get!_list, Nat.sub_zero]
  have hd : ∀ i, (b.drop p).getD i 0 = b.getD (p + i) 0 := fun i => by simp [List.getD, List.getElem?_drop]
  simp only [hd, Nat.add_zero, Nat.zero_add]

theorem textBad_bad (b : List UInt8) : ∀ f p, textBadV b f p = badV b f p
  | 0, _ => rfl
  | f + 1, p => by
    unfold textBadV badV
    split
    · rename_i hp
      have hd := decV_le b p hp
      rw [decGo_drop b p hp, sizeV_dec b p hp]
      by_cases h1 : (decV b p).1 = 65533
      · by_cases h2 : (decV b p).2 = 1
        · have e : decV b p = (65533, 1) := Prod.ext h1 h2
          simp [e]
        · have e : ¬ decV b p = (65533, 1) := fun q => h2 (by rw [q])
          have h3 : ¬ (decV b p).2 = 0 := by omega
          simp [h1, h2, e, h3, textBad_bad b f]
      · have e : ¬ decV b p = (65533, 1) := fun q => h1 (by rw [q])
        have h3 : ¬ (decV b p).2 = 0 := by omega
        simp [h1, e, h3, textBad_bad b f]
    · rfl

/-- A text is right: P1.1. -/
def rightV (b : List UInt8) : Bool := decide (badV b (b.length + 1) 0 = -1)

theorem textRight_spec' (b : List UInt8) (hb : b.length ≤ 9223372036854775807) (s : St) : call G 64 [.str b] s = some (.bool (rightV b), s) := by
  rw [textRight_spec b hb, textBad_bad]
  have := badV_ge b (b.length + 1) 0
  have e : decide (badV b (b.length + 1) 0 < 0) = rightV b := by
    unfold rightV
    by_cases h : badV b (b.length + 1) 0 = -1
    · simp [h]
    · have : ¬ badV b (b.length + 1) 0 < 0 := by omega
      simp [h, this]
  rw [e]

end Go.Proofs.YtadpobnajjocnaaGreatDoor.Eng

/-
  strings.Builder. No condition.
-/
namespace Go.Proofs.YtadpobnajjocnaaGreatDoor.Eng
open Go
set_option linter.unusedSimpArgs false
set_option linter.unusedVariables false

attribute [local simp] evC_reg evC_regD evR_cons evR_nil runR_some regK_some evC_ret evC_skip evC_exit Out_seq Out_blk Out_some seqQ_norm seqQ_ret seqQ_exit blkQ_norm blkQ_ret blkQ_exit loopQ_norm loopQ_ret loopQ_exit
attribute [local simp] stepR evOp put upd_apply X.ev initEnv cells_agg cells_int cells_str cells_bool cells_sl cells_ptr cells_pnil cells_fn cells_map vc_length vc_take vc_plain vc_und toVs_plain toPs_plain toVs_und toPs_und takeN evBin isSh intBin strBin callK resOf packR fin V.plain plainL V.und undL scK kill dstsO dstsL dstsR ite_some ite_pair ite_vbool evUn evLoad evLen V.real finLoop_false quietK_false kill_none

def bObj (o i : Nat) (bs : List UInt8) : AObj := .cells 69 [.ptr o 0, .sl (.buf i) (asBytes bs)]
/-- A builder, its buffer the last of all; behind what is there, ahead of other things. -/
def bst (obs tl : List AObj) (bufs : List (Nat × Nat × TypeId)) (bs : List UInt8) : St := ⟨obs ++ bObj obs.length bufs.length bs :: tl, bufs ++ [(bs.length, 1, 5)]⟩
def bst0 (obs tl : List AObj) (bufs : List (Nat × Nat × TypeId)) : St := ⟨obs ++ .cells 69 [.pnil, .sl .nil []] :: tl, bufs⟩
def bst1 (obs tl : List AObj) (bufs : List (Nat × Nat × TypeId)) : St := ⟨obs ++ .cells 69 [.ptr obs.length 0, .sl .nil []] :: tl, bufs⟩

theorem asBytes_length (b : List UInt8) : (asBytes b).length = b.length := by simp [asBytes]
theorem asBytes_app (a b : List UInt8) : asBytes (a ++ b) = asBytes a ++ asBytes b := by simp [asBytes]
theorem fits_bytes (b : List UInt8) : fits 1 (asBytes b) = true := by cases b <;> simp [asBytes, fits]

theorem fits_nil : fits 1 [] = true := rfl
theorem fits_one (k : IntKind) (n : Int) : fits 1 [.int k n] = true := rfl

theorem id_spec (v : V) (s : St) : call G 86 [v] s = some (v, s) := by rw [call_eq]; rfl

theorem copy_bst (obs tl : List AObj) (bufs : List (Nat × Nat × TypeId)) (bs : List UInt8) : call G 68 [.ptr obs.length 0] (bst obs tl bufs bs) = some (.tup [], bst obs tl bufs bs) := by
  refine call_out (F := af68) rfl rfl ?_
  simp [af68, af68b, bst, bObj, evEqp]
  refine Out_cond _ _ _ _ _ _ _ rfl (fun h => by cases h) (fun _ => ?_)
  simp [evEqp]
  refine Out_cond _ _ _ _ _ _ _ rfl (fun h => by cases h) (fun _ => ?_)
  simp

theorem copy_bst0 (obs tl : List AObj) (bufs : List (Nat × Nat × TypeId)) : call G 68 [.ptr obs.length 0] (bst0 obs tl bufs) = some (.tup [], bst1 obs tl bufs) := by
  refine call_out (F := af68) rfl rfl ?_
  simp [af68, af68b, bst0, bst1, evEqp]
  refine Out_cond _ _ _ _ _ _ _ rfl (fun _ => ?_) (fun h => by cases h)
  simp [id_spec, evStore, V.one, putL]

theorem write_bst (obs tl : List AObj) (bufs : List (Nat × Nat × TypeId)) (bs x : List UInt8) (hx : x ≠ []) (hr : bs.length + x.length ≤ 140737488355328) :
    call G 48 [.ptr obs.length 0, .str x] (bst obs tl bufs bs) = some (.tup [.int .i64 x.length, .nilI], bst obs tl bufs (bs ++ x)) := by
  have hroom : room = 140737488355328 := by decide
  have hx0 : ¬ x.length = 0 := by simpa using hx
  refine call_out (F := af48) rfl rfl ?_
  simp [af48, af48b, copy_bst]
  simp [bst, bObj, evApp, appSrc, asBytes_length, hx0, fits_bytes, hroom, hr, evStore, V.one, putL, asBytes_app, hx]

theorem write_bst0 (obs tl : List AObj) (bufs : List (Nat × Nat × TypeId)) (x : List UInt8) (hx : x ≠ []) (hr : x.length ≤ 140737488355328) :
    call G 48 [.ptr obs.length 0, .str x] (bst0 obs tl bufs) = some (.tup [.int .i64 x.length, .nilI], bst obs tl bufs x) := by
  have hroom : room = 140737488355328 := by decide
  have hx0 : ¬ x.length = 0 := by simpa using hx
  refine call_out (F := af48) rfl rfl ?_
  simp [af48, af48b, copy_bst0]
  simp [bst, bst1, bObj, evApp, appSrc, asBytes_length, hx0, fits_bytes, hroom, hr, evStore, V.one, putL, asBytes_app, hx, fits_nil]

theorem one_byte (x : UInt8) : asBytes [x] = [.int .u8 x.toNat] := rfl

theorem byte_bst (obs tl : List AObj) (bufs : List (Nat × Nat × TypeId)) (bs : List UInt8) (x : UInt8) (hr : bs.length + 1 ≤ 140737488355328) :
    call G 65 [.ptr obs.length 0, .int .u8 x.toNat] (bst obs tl bufs bs) = some (.nilI, bst obs tl bufs (bs ++ [x])) := by
  have hroom : room = 140737488355328 := by decide
  refine call_out (F := af65) rfl rfl ?_
  simp [af65, af65b, copy_bst]
  simp [bst, bObj, hroom, hr, evApp, appSrc, asBytes_length, fits_bytes, evStore, V.one, putL, asBytes_app, one_byte, fillS, fits_nil, fits_one]

theorem byte_bst0 (obs tl : List AObj) (bufs : List (Nat × Nat × TypeId)) (x : UInt8) :
    call G 65 [.ptr obs.length 0, .int .u8 x.toNat] (bst0 obs tl bufs) = some (.nilI, bst obs tl bufs [x]) := by
  have hroom : room = 140737488355328 := by decide
  refine call_out (F := af65) rfl rfl ?_
  simp [af65, af65b, copy_bst0]
  simp [bst, bst1, bObj, hroom, evApp, appSrc, asBytes_length, fits_bytes, evStore, V.one, putL, asBytes_app, one_byte, fillS, fits_nil, fits_one]

theorem bytesOf_as : ∀ b : List UInt8, bytesOf (asBytes b) = some b
  | [] => rfl
  | x :: b => by
    have h := bytesOf_as b
    have hx := byte_lt x
    simp only [asBytes, List.map_cons] at h ⊢
    unfold bytesOf
    rw [if_pos (by omega), h]
    simp

theorem fin_same (s : St) (r : V) (h : r.plain.und s.obs.length 0 = true) : fin false s s r = (r.plain, s) := by
  unfold fin
  rw [if_neg (by simp), if_pos ⟨List.take_length, h⟩, List.take_length]

theorem string_bst (obs tl : List AObj) (bufs : List (Nat × Nat × TypeId)) (bs : List UInt8) (hb : bs ≠ []) (hr : bs.length ≤ 140737488355328) : call G 49 [.ptr obs.length 0] (bst obs tl bufs bs) = some (.str bs, bst obs tl bufs bs) := by
  have hroom : room = 140737488355328 := by decide
  refine call_out (F := af49) rfl rfl ?_
  simp [-fin, pendF, af49, af49b, bst, bObj, hroom, hr, asBytes_length, hb, bytesOf_as]
  exact fin_same _ _ rfl

end Go.Proofs.YtadpobnajjocnaaGreatDoor.Eng

/-
  utf8.AppendRune, (*strings.Builder).WriteRune. No condition.
-/
namespace Go.Proofs.YtadpobnajjocnaaGreatDoor.Eng
open Go
set_option linter.unusedSimpArgs false
set_option linter.unusedVariables false

attribute [local simp] evC_reg evC_regD evR_cons evR_nil runR_some regK_some evC_ret evC_skip evC_exit Out_seq Out_blk Out_some seqQ_norm seqQ_ret seqQ_exit blkQ_norm blkQ_ret blkQ_exit loopQ_norm loopQ_ret loopQ_exit
attribute [local simp] stepR evOp put upd_apply X.ev initEnv cells_agg cells_int cells_str cells_bool cells_sl cells_ptr cells_pnil cells_fn cells_map vc_length vc_take vc_plain vc_und toVs_plain toPs_plain toVs_und toPs_und takeN evBin isSh intBin strBin callK resOf packR fin V.plain plainL V.und undL scK kill dstsO dstsL dstsR ite_some ite_pair ite_vbool evUn evLoad evLen V.real finLoop_false quietK_false kill_none

theorem wrapU8 {n : Int} (h0 : 0 ≤ n) : IntKind.u8.wrap n = n % 256 := by
  have e : (2 : Int) ^ IntKind.u8.bits = 256 := by decide
  have e'' : IntKind.u8.signed = false := by decide
  unfold IntKind.wrap
  simp only [e, e'', Bool.false_and, Bool.false_eq_true, if_false]

theorem wrapU32 {n : Int} (h0 : 0 ≤ n) (h1 : n < 4294967296) : IntKind.u32.wrap n = n := by
  have e : (2 : Int) ^ IntKind.u32.bits = 4294967296 := by decide
  have e'' : IntKind.u32.signed = false := by decide
  unfold IntKind.wrap
  simp only [e, e'', Bool.false_and, Bool.false_eq_true, if_false]
  omega

/-- A lead byte's bits, and a later byte's. -/
theorem or_192 : ∀ x : Fin 32, IntKind.u8.wrap ((BitVec.ofInt IntKind.u8.bits 192 ||| BitVec.ofInt IntKind.u8.bits (x.val : Int)).toNat : Int) = 192 + x.val := by decide
theorem or_224 : ∀ x : Fin 16, IntKind.u8.wrap ((BitVec.ofInt IntKind.u8.bits 224 ||| BitVec.ofInt IntKind.u8.bits (x.val : Int)).toNat : Int) = 224 + x.val := by decide
theorem or_240 : ∀ x : Fin 8, IntKind.u8.wrap ((BitVec.ofInt IntKind.u8.bits 240 ||| BitVec.ofInt IntKind.u8.bits (x.val : Int)).toNat : Int) = 240 + x.val := by decide
set_option maxRecDepth 10000 in
theorem or_128 : ∀ x : Fin 64, IntKind.u8.wrap ((BitVec.ofInt IntKind.u8.bits 128 ||| BitVec.ofInt IntKind.u8.bits (x.val : Int)).toNat : Int) = 128 + x.val := by decide
set_option maxRecDepth 100000 in
theorem and_63 : ∀ x : Fin 256, IntKind.u8.wrap ((BitVec.ofInt IntKind.u8.bits (x.val : Int) &&& BitVec.ofInt IntKind.u8.bits 63).toNat : Int) = ((x.val % 64 : Nat) : Int) := by decide

/-- Bits of bytes. -/
def orB (a b : Int) : Int := IntKind.u8.wrap (BitVec.ofInt IntKind.u8.bits a ||| BitVec.ofInt IntKind.u8.bits b).toNat
def andB (a b : Int) : Int := IntKind.u8.wrap (BitVec.ofInt IntKind.u8.bits a &&& BitVec.ofInt IntKind.u8.bits b).toNat
theorem iB_or (a b : Int) : intBin .or .u8 a b = some (.int .u8 (orB a b)) := rfl
theorem iB_and (a b : Int) : intBin .and .u8 a b = some (.int .u8 (andB a b)) := rfl
theorem iB_leq (k : IntKind) (a b : Int) : intBin .leq k a b = some (.bool (decide (a ≤ b))) := rfl
theorem iB_lss (k : IntKind) (a b : Int) : intBin .lss k a b = some (.bool (decide (a < b))) := rfl
theorem iB_gtr (k : IntKind) (a b : Int) : intBin .gtr k a b = some (.bool (decide (b < a))) := rfl

theorem or192 {x : Int} (h0 : 0 ≤ x) (h : x < 32) : orB 192 x = 192 + x := by
  have := or_192 ⟨x.toNat, by omega⟩
  simp only at this
  rw [show ((x.toNat : Nat) : Int) = x by omega] at this
  exact this
theorem or224 {x : Int} (h0 : 0 ≤ x) (h : x < 16) : orB 224 x = 224 + x := by
  have := or_224 ⟨x.toNat, by omega⟩
  simp only at this
  rw [show ((x.toNat : Nat) : Int) = x by omega] at this
  exact this
theorem or240 {x : Int} (h0 : 0 ≤ x) (h : x < 8) : orB 240 x = 240 + x := by
  have := or_240 ⟨x.toNat, by omega⟩
  simp only at this
  rw [show ((x.toNat : Nat) : Int) = x by omega] at this
  exact this
theorem or128 {x : Int} (h0 : 0 ≤ x) (h : x < 64) : orB 128 x = 128 + x := by
  have := or_128 ⟨x.toNat, by omega⟩
  simp only at this
  rw [show ((x.toNat : Nat) : Int) = x by omega] at this
  exact this
theorem and63 {x : Int} (h0 : 0 ≤ x) (h : x < 256) : andB x 63 = x % 64 := by
  have := and_63 ⟨x.toNat, by omega⟩
  simp only at this
  rw [show ((x.toNat : Nat) : Int) = x by omega] at this
  have e : ((x.toNat % 64 : Nat) : Int) = x % 64 := by omega
  rw [e] at this
  exact this

/-- A rune's bytes. -/
def encV (c : Nat) : List UInt8 :=
  if c < 128 then [UInt8.ofNat c]
  else if c < 2048 then [UInt8.ofNat (192 + c / 64), UInt8.ofNat (128 + c % 64)]
  else if c < 65536 then [UInt8.ofNat (224 + c / 4096), UInt8.ofNat (128 + c / 64 % 64), UInt8.ofNat (128 + c % 64)]
  else [UInt8.ofNat (240 + c / 262144), UInt8.ofNat (128 + c / 4096 % 64), UInt8.ofNat (128 + c / 64 % 64), UInt8.ofNat (128 + c % 64)]

theorem fits_int (k : IntKind) (n : Int) (r : List V) : fits 1 (.int k n :: r) = true := rfl

theorem ofNat_val {n : Nat} (h : n < 256) : ((UInt8.ofNat n).toNat : Int) = n := by
  rw [UInt8.toNat_ofNat']; omega

theorem app80_spec (obs : List AObj) (bufs : List (Nat × Nat × TypeId)) (bs : List UInt8) (c : Nat) (h0 : 128 ≤ c) (h1 : c ≤ 1114111) (h2 : c < 55296 ∨ 57344 ≤ c) (hr : bs.length + 4 ≤ 140737488355328) :
    call G 99 [.sl (.buf bufs.length) (asBytes bs), .int .i32 c] ⟨obs, bufs ++ [(bs.length, 1, 5)]⟩ =
      some (.sl (.buf bufs.length) (asBytes (bs ++ encV c)), ⟨obs, bufs ++ [((bs ++ encV c).length, 1, 5)]⟩) := by
  have hroom : room = 140737488355328 := by decide
  have w32 : IntKind.u32.wrap (c : Int) = c := wrapU32 (by omega) (by omega)
  have s6 : (c : Int).fdiv 64 = (c : Int) / 64 := Int.fdiv_eq_ediv_of_nonneg _ (by omega)
  have s12 : (c : Int).fdiv 4096 = (c : Int) / 4096 := Int.fdiv_eq_ediv_of_nonneg _ (by omega)
  have s18 : (c : Int).fdiv 262144 = (c : Int) / 262144 := Int.fdiv_eq_ediv_of_nonneg _ (by omega)
  have m6 : min 6 IntKind.i32.bits = 6 := by decide
  have m12 : min 12 IntKind.i32.bits = 12 := by decide
  have m18 : min 18 IntKind.i32.bits = 18 := by decide
  have lw0 : IntKind.u8.wrap (c : Int) = (c : Int) % 256 := wrapU8 (by omega)
  have lw6 : IntKind.u8.wrap ((c : Int) / 64) = (c : Int) / 64 % 256 := wrapU8 (by omega)
  have lw12 : IntKind.u8.wrap ((c : Int) / 4096) = (c : Int) / 4096 % 256 := wrapU8 (by omega)
  have lw18 : IntKind.u8.wrap ((c : Int) / 262144) = (c : Int) / 262144 % 256 := wrapU8 (by omega)
  have t0 : orB 128 (andB ((c : Int) % 256) 63) = 128 + (c : Int) % 64 := by rw [and63 (by omega) (by omega), or128 (by omega) (by omega)]; omega
  have t6 : orB 128 (andB ((c : Int) / 64 % 256) 63) = 128 + (c : Int) / 64 % 64 := by rw [and63 (by omega) (by omega), or128 (by omega) (by omega)]; omega
  have t12 : orB 128 (andB ((c : Int) / 4096 % 256) 63) = 128 + (c : Int) / 4096 % 64 := by rw [and63 (by omega) (by omega), or128 (by omega) (by omega)]; omega
  refine call_out (F := af99) rfl rfl ?_
  simp [-intBin, iB_leq, af99, af99b, w32]
  refine Out_cond _ _ _ _ _ _ _ rfl (fun h => ?_) (fun h => ?_)
  · have hc : c ≤ 2047 := by simp at h; omega
    have o1 : orB 192 ((c : Int) / 64 % 256) = 192 + (c : Int) / 64 := by rw [or192 (by omega) (by omega)]; omega
    have ev : encV c = [UInt8.ofNat (192 + c / 64), UInt8.ofNat (128 + c % 64)] := by simp [encV, show ¬ c < 128 by omega, show c < 2048 by omega]
    have v1 := ofNat_val (n := 192 + c / 64) (by omega)
    have v2 := ofNat_val (n := 128 + c % 64) (by omega)
    have eb : asBytes (bs ++ encV c) = asBytes bs ++ [.int .u8 (192 + (c : Int) / 64), .int .u8 (128 + (c : Int) % 64)] := by
      rw [asBytes_app, ev]
      simp only [asBytes, List.map_cons, List.map_nil, v1, v2]
      simp
    have hr' : bs.length + 2 ≤ 140737488355328 := by omega
    rw [eb, ev]
    simp [-intBin, iB_or, iB_and, shBin, m6, s6, lw0, lw6, o1, t0, fillS, V.one, evApp, appSrc, asBytes_length, fits_bytes, fits_int, hroom, hr']
  · have hc : ¬ c ≤ 2047 := by simp at h; omega
    have hA : ∀ (env : Env), env 0 = .sl (.buf bufs.length) (asBytes bs) → env 1 = .int .i32 c → env 5 = .int .u32 c → env 25 = .bool (decide (c ≤ 65535)) → True := fun _ _ _ _ _ => trivial
    simp [-intBin, iB_lss]
    refine Out_cond _ _ _ _ _ _ _ rfl (fun h3 => ?_) (fun h3 => ?_)
    · have hc3 : c < 55296 := by simp at h3; omega
      simp
      refine Out_cond _ _ _ _ _ _ _ rfl (fun _ => ?_) (fun h4 => by simp at h4; omega)
      have o1 : orB 224 ((c : Int) / 4096 % 256) = 224 + (c : Int) / 4096 := by rw [or224 (by omega) (by omega)]; omega
      have ev : encV c = [UInt8.ofNat (224 + c / 4096), UInt8.ofNat (128 + c / 64 % 64), UInt8.ofNat (128 + c % 64)] := by
        simp [encV, show ¬ c < 128 by omega, show ¬ c < 2048 by omega, show c < 65536 by omega]
      have v1 := ofNat_val (n := 224 + c / 4096) (by omega)
      have v2 := ofNat_val (n := 128 + c / 64 % 64) (by omega)
      have v3 := ofNat_val (n := 128 + c % 64) (by omega)
      have eb : asBytes (bs ++ encV c) = asBytes bs ++ [.int .u8 (224 + (c : Int) / 4096), .int .u8 (128 + (c : Int) / 64 % 64), .int .u8 (128 + (c : Int) % 64)] := by
        rw [asBytes_app, ev]
        simp only [asBytes, List.map_cons, List.map_nil, v1, v2, v3]
        simp
      have hr' : bs.length + 3 ≤ 140737488355328 := by omega
      rw [eb, ev]
      simp [-intBin, iB_or, iB_and, shBin, m6, m12, s6, s12, lw0, lw6, lw12, o1, t0, t6, fillS, V.one, evApp, appSrc, asBytes_length, fits_bytes, fits_int, hroom, hr']
    · have hc3 : ¬ c < 55296 := by simp at h3; omega
      simp [-intBin, iB_lss, iB_leq]
      refine Out_cond _ _ _ _ _ _ _ rfl (fun h4 => ?_) (fun h4 => ?_)
      · have hc4 : c ≤ 65535 := by simp at h4; omega
        have o1 : orB 224 ((c : Int) / 4096 % 256) = 224 + (c : Int) / 4096 := by rw [or224 (by omega) (by omega)]; omega
        have ev : encV c = [UInt8.ofNat (224 + c / 4096), UInt8.ofNat (128 + c / 64 % 64), UInt8.ofNat (128 + c % 64)] := by
          simp [encV, show ¬ c < 128 by omega, show ¬ c < 2048 by omega, show c < 65536 by omega]
        have v1 := ofNat_val (n := 224 + c / 4096) (by omega)
        have v2 := ofNat_val (n := 128 + c / 64 % 64) (by omega)
        have v3 := ofNat_val (n := 128 + c % 64) (by omega)
        have eb : asBytes (bs ++ encV c) = asBytes bs ++ [.int .u8 (224 + (c : Int) / 4096), .int .u8 (128 + (c : Int) / 64 % 64), .int .u8 (128 + (c : Int) % 64)] := by
          rw [asBytes_app, ev]
          simp only [asBytes, List.map_cons, List.map_nil, v1, v2, v3]
          simp
        have hr' : bs.length + 3 ≤ 140737488355328 := by omega
        rw [eb, ev]
        simp [-intBin, iB_or, iB_and, shBin, m6, m12, s6, s12, lw0, lw6, lw12, o1, t0, t6, fillS, V.one, evApp, appSrc, asBytes_length, fits_bytes, fits_int, hroom, hr']
      · have hc4 : ¬ c ≤ 65535 := by simp at h4; omega
        simp [-intBin, iB_leq, iB_gtr]
        refine Out_cond _ _ _ _ _ _ _ rfl (fun _ => ?_) (fun h5 => by simp at h5; omega)
        have o1 : orB 240 ((c : Int) / 262144 % 256) = 240 + (c : Int) / 262144 := by rw [or240 (by omega) (by omega)]; omega
        have ev : encV c = [UInt8.ofNat (240 + c / 262144), UInt8.ofNat (128 + c / 4096 % 64), UInt8.ofNat (128 + c / 64 % 64), UInt8.ofNat (128 + c % 64)] := by
          simp [encV, show ¬ c < 128 by omega, show ¬ c < 2048 by omega, show ¬ c < 65536 by omega]
        have v1 := ofNat_val (n := 240 + c / 262144) (by omega)
        have v2 := ofNat_val (n := 128 + c / 4096 % 64) (by omega)
        have v3 := ofNat_val (n := 128 + c / 64 % 64) (by omega)
        have v4 := ofNat_val (n := 128 + c % 64) (by omega)
        have eb : asBytes (bs ++ encV c) = asBytes bs ++ [.int .u8 (240 + (c : Int) / 262144), .int .u8 (128 + (c : Int) / 4096 % 64), .int .u8 (128 + (c : Int) / 64 % 64), .int .u8 (128 + (c : Int) % 64)] := by
          rw [asBytes_app, ev]
          simp only [asBytes, List.map_cons, List.map_nil, v1, v2, v3, v4]
          simp
        rw [eb, ev]
        simp [-intBin, iB_or, iB_and, shBin, m6, m12, m18, s6, s12, s18, lw0, lw6, lw12, lw18, o1, t0, t6, t12, fillS, V.one, evApp, appSrc, asBytes_length, fits_bytes, fits_int, hroom, hr]

/-- A rune that may be. -/
def runeOk (c : Nat) : Prop := c ≤ 1114111 ∧ (c < 55296 ∨ 57344 ≤ c)

theorem app65_spec (obs : List AObj) (bufs : List (Nat × Nat × TypeId)) (bs : List UInt8) (c : Nat) (hc : runeOk c) (hr : bs.length + 4 ≤ 140737488355328) :
    call G 85 [.sl (.buf bufs.length) (asBytes bs), .int .i32 c] ⟨obs, bufs ++ [(bs.length, 1, 5)]⟩ =
      some (.sl (.buf bufs.length) (asBytes (bs ++ encV c)), ⟨obs, bufs ++ [((bs ++ encV c).length, 1, 5)]⟩) := by
  obtain ⟨h1, h2⟩ := hc
  have w32 : IntKind.u32.wrap (c : Int) = c := wrapU32 (by omega) (by omega)
  refine call_out (F := af85) rfl rfl ?_
  simp [-intBin, iB_leq, af85, af85b, w32]
  refine Out_cond _ _ _ _ _ _ _ rfl (fun h => ?_) (fun h => ?_)
  · have hc : c < 128 := by simp at h; omega
    have lw0 : IntKind.u8.wrap (c : Int) = c := by rw [wrapU8 (by omega)]; omega
    have v1 := ofNat_val (n := c) (by omega)
    have ev : encV c = [UInt8.ofNat c] := by simp [encV, hc]
    have eb : asBytes (bs ++ encV c) = asBytes bs ++ [.int .u8 c] := by
      rw [asBytes_app, ev]
      simp only [asBytes, List.map_cons, List.map_nil, v1]
    rw [eb, ev]
    have hroom : room = 140737488355328 := by decide
    have hr1 : bs.length + 1 ≤ 140737488355328 := by omega
    simp [lw0, fillS, V.one, evApp, appSrc, asBytes_length, fits_bytes, fits_int, hroom, hr1]
  · have hc : 128 ≤ c := by simp at h; omega
    simp [app80_spec obs bufs bs c hc h1 h2 hr]

theorem encV_len (c : Nat) : 1 ≤ (encV c).length ∧ (encV c).length ≤ 4 := by
  unfold encV
  repeat' split
  all_goals simp

theorem rune_bst (obs tl : List AObj) (bufs : List (Nat × Nat × TypeId)) (bs : List UInt8) (c : Nat) (hc : runeOk c) (hr : bs.length + 4 ≤ 140737488355328) :
    call G 67 [.ptr obs.length 0, .int .i32 c] (bst obs tl bufs bs) = some (.tup [.int .i64 (encV c).length, .nilI], bst obs tl bufs (bs ++ encV c)) := by
  have hl := encV_len c
  have hw : IntKind.i64.wrap ((bs.length : Int) + (encV c).length - bs.length) = (encV c).length := by rw [wrap_in (by omega) (by omega)]; omega
  have h65 := fun o => app65_spec o bufs bs c hc hr
  refine call_out (F := af67) rfl rfl ?_
  simp [af67, af67b, copy_bst]
  simp [bst, bObj, asBytes_length]
  simp at h65
  simp [h65, evStore, V.one, putL, asBytes_length, hw]

end Go.Proofs.YtadpobnajjocnaaGreatDoor.Eng

/-
  Texts in quotes. No condition.
-/
namespace Go.Proofs.YtadpobnajjocnaaGreatDoor.Eng
open Go
set_option linter.unusedSimpArgs false
set_option linter.unusedVariables false

attribute [local simp] evC_reg evC_regD evR_cons evR_nil runR_some regK_some evC_ret evC_skip evC_exit Out_seq Out_blk Out_some seqQ_norm seqQ_ret seqQ_exit blkQ_norm blkQ_ret blkQ_exit loopQ_norm loopQ_ret loopQ_exit
attribute [local simp] stepR evOp put upd_apply X.ev initEnv cells_agg cells_int cells_str cells_bool cells_sl cells_ptr cells_pnil cells_fn cells_map vc_length vc_take vc_plain vc_und toVs_plain toPs_plain toVs_und toPs_und takeN evBin isSh intBin strBin callK resOf packR fin V.plain plainL V.und undL scK kill dstsO dstsL dstsR ite_some ite_pair ite_vbool evUn evLoad evLen V.real finLoop_false quietK_false kill_none

def hexL : List UInt8 := [48, 49, 50, 51, 52, 53, 54, 55, 56, 57, 97, 98, 99, 100, 101, 102]
def hexV (n : Nat) : List UInt8 := (hexL.take (n + 1)).drop n

/-- What stands for a rune; nothing: it does itself. -/
def escV (c : Nat) : List UInt8 :=
  if c = 34 then [92, 34] else if c = 92 then [92, 92] else if c = 8 then [92, 98] else if c = 12 then [92, 102] else if c = 10 then [92, 110] else if c = 13 then [92, 114] else if c = 9 then [92, 116]
  else if c < 32 then [92, 117, 48, 48] ++ hexV (c / 16) ++ hexV (c % 16) else []

def andI (a b : Int) : Int := IntKind.i32.wrap (BitVec.ofInt IntKind.i32.bits a &&& BitVec.ofInt IntKind.i32.bits b).toNat
theorem iB_and32 (a b : Int) : intBin .and .i32 a b = some (.int .i32 (andI a b)) := rfl
theorem iB_eql (k : IntKind) (a b : Int) : intBin .eql k a b = some (.bool (decide (a = b))) := rfl
theorem iB_neq (k : IntKind) (a b : Int) : intBin .neq k a b = some (.bool (!decide (a = b))) := rfl
theorem iB_add (k : IntKind) (a b : Int) : intBin .add k a b = some (.int k (k.wrap (a + b))) := rfl
set_option maxRecDepth 10000 in
theorem and15f : ∀ x : Fin 32, andI (x.val : Int) 15 = ((x.val % 16 : Nat) : Int) := by decide
theorem hexV_len : ∀ x : Fin 16, (hexV x.val).length = 1 := by decide

theorem hexs (k : IntKind) (y : Int) (n : Nat) (hn : y = n) (h : n < 16) : evSlcS (.str [48, 49, 50, 51, 52, 53, 54, 55, 56, 57, 97, 98, 99, 100, 101, 102]) (some (.int k y)) (some (.int k (y + 1))) = some (.str (hexV n)) := by
  subst hn
  have e : ((n : Int) + 1).toNat = n + 1 := by omega
  have e1 : (0 : Int) ≤ (n : Int) + 1 := by omega
  have e2 : n + 1 ≤ 16 := by omega
  simp [evSlcS, bnd, e, e1, e2, hexV, hexL]

theorem esc_spec (c : Nat) (hc : c ≤ 1114111) (s : St) : call G 66 [.int .i32 c] s = some (.str (escV c), s) := by
  have imax : i64max = 9223372036854775807 := rfl
  refine call_out (F := af66) rfl rfl ?_
  simp [-intBin, iB_eql, af66, af66b]
  refine Out_cond _ _ _ _ _ _ _ rfl (fun h => ?_) (fun h1 => ?_)
  · have hh : c = 34 := by simp at h; omega
    simp [escV, hh]
  have n1 : ¬ c = 34 := by simp at h1; omega
  simp [-intBin, iB_eql]
  refine Out_cond _ _ _ _ _ _ _ rfl (fun h => ?_) (fun h2 => ?_)
  · have hh : c = 92 := by simp at h; omega
    simp [escV, hh]
  have n2 : ¬ c = 92 := by simp at h2; omega
  simp [-intBin, iB_eql]
  refine Out_cond _ _ _ _ _ _ _ rfl (fun h => ?_) (fun h3 => ?_)
  · have hh : c = 8 := by simp at h; omega
    simp [escV, hh]
  have n3 : ¬ c = 8 := by simp at h3; omega
  simp [-intBin, iB_eql]
  refine Out_cond _ _ _ _ _ _ _ rfl (fun h => ?_) (fun h4 => ?_)
  · have hh : c = 12 := by simp at h; omega
    simp [escV, hh]
  have n4 : ¬ c = 12 := by simp at h4; omega
  simp [-intBin, iB_eql]
  refine Out_cond _ _ _ _ _ _ _ rfl (fun h => ?_) (fun h5 => ?_)
  · have hh : c = 10 := by simp at h; omega
    simp [escV, hh]
  have n5 : ¬ c = 10 := by simp at h5; omega
  simp [-intBin, iB_eql]
  refine Out_cond _ _ _ _ _ _ _ rfl (fun h => ?_) (fun h6 => ?_)
  · have hh : c = 13 := by simp at h; omega
    simp [escV, hh]
  have n6 : ¬ c = 13 := by simp at h6; omega
  simp [-intBin, iB_eql]
  refine Out_cond _ _ _ _ _ _ _ rfl (fun h => ?_) (fun h7 => ?_)
  · have hh : c = 9 := by simp at h; omega
    simp [escV, hh]
  have n7 : ¬ c = 9 := by simp at h7; omega
  simp [-intBin, iB_lss]
  refine Out_cond _ _ _ _ _ _ _ rfl (fun h => ?_) (fun h => ?_)
  · have hh : c < 32 := by simp at h; omega
    have s4 : (c : Int).fdiv 16 = (c : Int) / 16 := Int.fdiv_eq_ediv_of_nonneg _ (by omega)
    have m4 : min 4 IntKind.i32.bits = 4 := by decide
    have a15 : andI (c : Int) 15 = ((c % 16 : Nat) : Int) := and15f ⟨c, hh⟩
    have w1 : IntKind.i32.wrap ((c : Int) / 16 + 1) = (c : Int) / 16 + 1 := wrap32 (by omega) (by omega)
    have w2 : IntKind.i32.wrap ((c : Int) % 16 + 1) = (c : Int) % 16 + 1 := wrap32 (by omega) (by omega)
    have l1 : (hexV (c / 16)).length = 1 := hexV_len ⟨c / 16, by omega⟩
    have l2 : (hexV (c % 16)).length = 1 := hexV_len ⟨c % 16, by omega⟩
    have x1 := hexs .i32 ((c : Int) / 16) (c / 16) (by omega) (by omega)
    have x2 := hexs .i32 ((c : Int) % 16) (c % 16) (by omega) (by omega)
    simp [-intBin, -strBin, iB_and32, iB_add, shBin, m4, s4, a15, w1, w2, x1, x2]
    simp [-intBin, iB_and32, iB_add, a15, w2, x2, imax, l1, l2, escV, n1, n2, n3, n4, n5, n6, n7, hh]
  · have hh : ¬ c < 32 := by simp at h; omega
    simp [escV, n1, n2, n3, n4, n5, n6, n7, hh]

theorem decV_ok (b : List UInt8) (p : Nat) (hp : p < b.length) : runeOk (decV b p).1 := by
  unfold decV runeOk
  rw [Lib.decode_at]
  have hx := ((⟨b.toArray⟩ : ByteArray).get! p).toNat_lt
  generalize ((⟨b.toArray⟩ : ByteArray).get! p).toNat = b0 at *
  generalize ((⟨b.toArray⟩ : ByteArray).get! (p + 1)).toNat = b1
  generalize ((⟨b.toArray⟩ : ByteArray).get! (p + 2)).toNat = b2
  generalize ((⟨b.toArray⟩ : ByteArray).get! (p + 3)).toNat = b3
  unfold Lib.decodeN
  repeat' split
  all_goals (simp only; omega)

/-- What is written for a rune. -/
def outV (c : Nat) : List UInt8 := if escV c = [] then encV c else escV c
def quoteB (b : List UInt8) : Nat → Nat → List UInt8
  | 0, _ => []
  | f + 1, p => if p < b.length then outV (decV b p).1 ++ quoteB b f (p + (decV b p).2) else []

theorem escV_len (c : Nat) : (escV c).length ≤ 6 := by
  unfold escV
  split
  · simp
  split
  · simp
  split
  · simp
  split
  · simp
  split
  · simp
  split
  · simp
  split
  · simp
  split
  · have l1 : (hexV (c / 16)).length = 1 := hexV_len ⟨c / 16, by omega⟩
    have l2 : (hexV (c % 16)).length = 1 := hexV_len ⟨c % 16, by omega⟩
    simp [l1, l2]
  · simp
theorem outV_len (c : Nat) : (outV c).length ≤ 6 := by
  have h1 := escV_len c
  have h2 := encV_len c
  unfold outV
  split <;> omega

theorem set_iter (o : List AObj) (x y z : AObj) : (o ++ [x, y]).set (o.length + 1) z = o ++ [x, z] := by
  simp [List.set_append]

theorem quoteLoop (o : List AObj) (bufs : List (Nat × Nat × TypeId)) (b : List UInt8) (hb : b.length ≤ 1000000000) :
    ∀ (f p : Nat) (env : Env) (bs : List UInt8), p ≤ b.length → b.length < p + f → bs.length + 6 * (b.length - p) ≤ 100000000000 → env 4 = .ptr o.length 0 → env 13 = .itr (o.length + 1) →
      Out (evC G (.loop false af46l0) env (bst o [.iter b p] bufs bs)) (fun e env' s' => e = .exit 0 ∧ env' 4 = .ptr o.length 0 ∧ ∃ q, s' = bst o [.iter b q] bufs (bs ++ quoteB b f p)) := by
  intro f
  induction f with
  | zero => intro p env bs h1 h2; omega
  | succ f ih =>
    intro p env bs hp hf hl h4 h13
    refine Out_loop G false _ _ af46l0.eq_1 _ _ _ ?_
    have hs : (bst o [.iter b p] bufs bs).obs[o.length + 1]? = some (.iter b p) := by simp [bst]
    by_cases hlt : p < b.length
    · have hd := decV_le b p hlt
      have hok := decV_ok b p hlt
      have hn := nxt_at b p (o.length + 1) (bst o [.iter b p] bufs bs) hs hlt
      have hset : ({ (bst o [.iter b p] bufs bs) with obs := (bst o [.iter b p] bufs bs).obs.set (o.length + 1) (.iter b (p + (Utf8.decode ⟨b.toArray⟩ p).2)) } : St) = bst o [.iter b (p + (decV b p).2)] bufs bs := by
        simp [bst, set_iter, decV]
      rw [hset] at hn
      have hdec : (Utf8.decode ⟨b.toArray⟩ p).1 = (decV b p).1 := rfl
      rw [hdec] at hn
      have hol := outV_len (decV b p).1
      simp [h13, hn]
      refine Out_cond _ _ _ _ _ _ _ rfl (fun _ => ?_) (fun h => by cases h)
      simp [esc_spec _ hd.2.2]
      refine Out_cond _ _ _ _ _ _ _ rfl (fun h => ?_) (fun h => ?_)
      · have he : ¬ escV (decV b p).1 = [] := by simpa using h
        have ho : outV (decV b p).1 = escV (decV b p).1 := by simp [outV, he]
        have hq : quoteB b (f + 1) p = escV (decV b p).1 ++ quoteB b f (p + (decV b p).2) := by simp [quoteB, hlt, ho]
        rw [ho] at hol
        simp [h4, write_bst o _ bufs bs _ he (by omega)]
        refine (ih (p + (decV b p).2) _ (bs ++ escV (decV b p).1) (by omega) (by omega) (by simp; omega) (by simp [h4]) (by simp [h13])).mono ?_
        rintro e env' s' ⟨rfl, g1, q, rfl⟩
        exact ⟨rfl, g1, q, by rw [hq, List.append_assoc]⟩
      · have he : escV (decV b p).1 = [] := by simpa using h
        have ho : outV (decV b p).1 = encV (decV b p).1 := by simp [outV, he]
        have hq : quoteB b (f + 1) p = encV (decV b p).1 ++ quoteB b f (p + (decV b p).2) := by simp [quoteB, hlt, ho]
        rw [ho] at hol
        simp [h4, rune_bst o _ bufs bs _ hok (by omega)]
        refine (ih (p + (decV b p).2) _ (bs ++ encV (decV b p).1) (by omega) (by omega) (by simp; omega) (by simp [h4]) (by simp [h13])).mono ?_
        rintro e env' s' ⟨rfl, g1, q, rfl⟩
        exact ⟨rfl, g1, q, by rw [hq, List.append_assoc]⟩
    · have hn := nxt_end b p (o.length + 1) (bst o [.iter b p] bufs bs) hs hlt
      simp [h13, hn]
      refine Out_cond _ _ _ _ _ _ _ rfl (fun h => by cases h) (fun _ => ?_)
      simp [quoteB, hlt, h4]
      exact ⟨p, rfl⟩

theorem quoteB_len (b : List UInt8) : ∀ f p, (quoteB b f p).length ≤ 6 * (b.length - p)
  | 0, p => by simp [quoteB]
  | f + 1, p => by
    unfold quoteB
    split
    · rename_i hp
      have h1 := outV_len (decV b p).1
      have h2 := quoteB_len b f (p + (decV b p).2)
      have h3 := decV_le b p hp
      simp
      omega
    · simp

/-- A text in quotes. -/
def quoteV (b : List UInt8) : List UInt8 := 34 :: (quoteB b (b.length + 1) 0 ++ [34])

theorem fin_bst (o tl : List AObj) (bufs : List (Nat × Nat × TypeId)) (bs : List UInt8) (r : V) (h : r.plain.und o.length 0 = true) : fin false ⟨o, bufs⟩ (bst o tl bufs bs) r = (r.plain, ⟨o, bufs⟩) := by
  unfold fin
  rw [if_neg (by simp), if_pos ⟨by simp [bst], h⟩]
  simp [bst]

theorem quote_spec (b : List UInt8) (hb : b.length ≤ 1000000000) (s : St) : call G 46 [.str b] s =
    if rightV b = true then some (.tup [.str (quoteV b), .int .i64 0], s) else some (.tup [.str [], .int .i64 2], s) := by
  obtain ⟨o, bufs⟩ := s
  have hr := fun s => textRight_spec' b (by omega) s
  have hl := quoteB_len b (b.length + 1) 0
  by_cases hrv : rightV b = true
  · rw [if_pos hrv]
    refine call_out (F := af46) rfl rfl ?_
    simp [af46, af46b, hr]
    refine Out_cond _ _ _ _ _ _ _ rfl (fun h => by simp [hrv] at h) (fun _ => ?_)
    have h0 : ({ obs := o ++ [.cells 69 [.pnil, .sl .nil []]], bufs := bufs } : St) = bst0 o [] bufs := rfl
    have hb0 := byte_bst0 o [] bufs 34
    have e34 : ((34 : UInt8).toNat : Int) = 34 := by decide
    rw [e34] at hb0
    have hrng : ({ obs := (bst o [] bufs [34]).obs ++ [.iter b 0], bufs := (bst o [] bufs [34]).bufs } : St) = bst o [.iter b 0] bufs [34] := by simp [bst]
    have hlen : (bst o [] bufs [34]).obs.length = o.length + 1 := by simp [bst]
    simp [h0, hb0, hrng, hlen]
    refine (quoteLoop o bufs b hb (b.length + 1) 0 _ [34] (by omega) (by omega) (by simp; omega) (by simp) (by simp)).mono ?_
    rintro e env s' ⟨rfl, g4, q, rfl⟩
    have hb1 := byte_bst o [.iter b q] bufs ([34] ++ quoteB b (b.length + 1) 0) 34 (by simp; omega)
    rw [e34] at hb1
    have hs1 := string_bst o [.iter b q] bufs ([34] ++ quoteB b (b.length + 1) 0 ++ [34]) (by simp) (by simp; omega)
    simp only [List.cons_append, List.nil_append] at hb1 hs1 ⊢
    simp [-fin, g4, hb1, hs1, quoteV]
    refine Eq.trans (if_pos ⟨by simp [bst], rfl⟩) ?_
    simp [bst]
  · rw [if_neg hrv]
    refine call_out (F := af46) rfl rfl ?_
    simp [af46, af46b, hr]
    refine Out_cond _ _ _ _ _ _ _ rfl (fun _ => ?_) (fun h => by simp [hrv] at h)
    simp

end Go.Proofs.YtadpobnajjocnaaGreatDoor.Eng

/-
  A text in quotes by the reference is the program's: by bytes and by runes. No condition.
-/
namespace Go.Proofs.YtadpobnajjocnaaGreatDoor.Eng
open Go
set_option linter.unusedSimpArgs false
set_option linter.unusedVariables false

theorem take_drop_getD (b : List UInt8) (p : Nat) : ∀ n, p + n ≤ b.length → (b.drop p).take n = (List.range n).map fun i => b.getD (p + i) 0
  | 0, _ => by simp
  | n + 1, h => by
    rw [List.range_succ, List.map_append, ← take_drop_getD b p n (by omega), List.take_add_one]
    congr 1
    rw [List.getElem?_drop, List.getElem?_eq_getElem (by omega)]
    simp [List.getD_eq_getElem?_getD, List.getElem?_eq_getElem (show p + n < b.length by omega)]

theorem ofNat_eq {n : Nat} {x : UInt8} (h : n = x.toNat) : UInt8.ofNat n = x := by subst h; exact UInt8.ofNat_toNat

theorem size_bytes (b : List UInt8) (p : Nat) (hp : p < b.length) (h : (sizeV b p).1 ≠ 0) :
    encV (sizeV b p).2 = (b.drop p).take (sizeV b p).1 ∧ (((sizeV b p).1 = 1 ∧ (sizeV b p).2 = (b.getD p 0).toNat ∧ (b.getD p 0).toNat < 128) ∨ (128 ≤ (sizeV b p).2 ∧ ∀ x ∈ (b.drop p).take (sizeV b p).1, 128 ≤ x.toNat)) := by
  have e1 := byte_lt (b.getD p 0)
  have hx : ∀ n, n < b.length + 1 - p → (b.drop p).take n = (List.range n).map fun i => b.getD (p + i) 0 := fun n hn => take_drop_getD b p n (by omega)
  revert h
  unfold sizeV
  simp only
  split
  · rename_i hc
    intro _
    rw [hx 1 (by omega)]
    refine ⟨?_, .inl ⟨rfl, rfl, hc⟩⟩
    rw [encV, if_pos hc, ofNat_eq rfl]
    simp [List.range_succ, List.getD_eq_getElem?_getD]
  · rename_i hc
    split
    · rename_i h2
      split
      · intro h; simp at h
      · rename_i hl
        simp only [contV, Nat.reduceAdd]
        have e2 := byte_lt (b.getD (p + 1) 0)
        split
        · intro h; simp at h
        · rename_i w hw
          split at hw
          · cases hw
          · rename_i hd
            have hw' := Option.some.inj hw
            subst hw'
            split
            · intro h; simp at h
            · rename_i hw2
              intro _
              rw [hx 2 (by omega)]
              simp only [List.range_succ, List.range_zero, List.nil_append, List.map_append, List.map_cons, List.map_nil, Nat.add_zero]
              refine ⟨?_, .inr ⟨by omega, ?_⟩⟩
              · rw [encV, if_neg (by omega), if_pos (by omega)]
                simp only [List.cons_append, List.nil_append, List.cons.injEq, and_true]
                exact ⟨ofNat_eq (by omega), ofNat_eq (by omega)⟩
              · intro x hx
                simp only [List.cons_append, List.nil_append, List.mem_cons, List.not_mem_nil, or_false] at hx
                rcases hx with rfl | rfl <;> omega
    · split
      · rename_i h3
        split
        · intro h; simp at h
        · rename_i hl
          simp only [contV, Nat.reduceAdd]
          have e2 := byte_lt (b.getD (p + 1) 0)
          have e3 := byte_lt (b.getD (p + 2) 0)
          split
          · intro h; simp at h
          · rename_i w hw
            split at hw
            · cases hw
            · rename_i hd
              split at hw
              · cases hw
              · rename_i hd2
                have hw' := Option.some.inj hw
                subst hw'
                split
                · intro h; simp at h
                · rename_i hw2
                  intro _
                  rw [hx 3 (by omega)]
                  simp only [List.range_succ, List.range_zero, List.nil_append, List.map_append, List.map_cons, List.map_nil, Nat.add_zero, List.cons_append, List.append_assoc]
                  refine ⟨?_, .inr ⟨by omega, ?_⟩⟩
                  · rw [encV, if_neg (by omega), if_neg (by omega), if_pos (by omega)]
                    simp only [List.cons_append, List.nil_append, List.cons.injEq, and_true]
                    exact ⟨ofNat_eq (by omega), ofNat_eq (by omega), ofNat_eq (by omega)⟩
                  · intro x hx
                    simp only [List.cons_append, List.nil_append, List.mem_cons, List.not_mem_nil, or_false] at hx
                    rcases hx with rfl | rfl | rfl <;> omega
      · split
        · rename_i h4
          split
          · intro h; simp at h
          · rename_i hl
            simp only [contV, Nat.reduceAdd]
            have e2 := byte_lt (b.getD (p + 1) 0)
            have e3 := byte_lt (b.getD (p + 2) 0)
            have e4 := byte_lt (b.getD (p + 3) 0)
            split
            · intro h; simp at h
            · rename_i w hw
              split at hw
              · cases hw
              · rename_i hd
                split at hw
                · cases hw
                · rename_i hd2
                  split at hw
                  · cases hw
                  · rename_i hd3
                    have hw' := Option.some.inj hw
                    subst hw'
                    split
                    · intro h; simp at h
                    · rename_i hw2
                      intro _
                      rw [hx 4 (by omega)]
                      simp only [List.range_succ, List.range_zero, List.nil_append, List.map_append, List.map_cons, List.map_nil, Nat.add_zero, List.cons_append, List.append_assoc]
                      refine ⟨?_, .inr ⟨by omega, ?_⟩⟩
                      · rw [encV, if_neg (by omega), if_neg (by omega), if_neg (by omega)]
                        simp only [List.cons_append, List.nil_append, List.cons.injEq, and_true]
                        exact ⟨ofNat_eq (by omega), ofNat_eq (by omega), ofNat_eq (by omega), ofNat_eq (by omega)⟩
                      · intro x hx
                        simp only [List.cons_append, List.nil_append, List.mem_cons, List.not_mem_nil, or_false] at hx
                        rcases hx with rfl | rfl | rfl | rfl <;> omega
        · intro h; simp at h

/-! ### The reference's text in quotes -/
def plainR (c : Nat) : Nat := if c = 34 ∨ c = 92 then c else if c = 8 then 98 else if c = 12 then 102 else if c = 10 then 110 else if c = 13 then 114 else if c = 9 then 116 else 0
def hexR (n : Nat) : List UInt8 := if n < 10 then [UInt8.ofNat (48 + n)] else [UInt8.ofNat (87 + n)]
def qByte (x : UInt8) : List UInt8 :=
  if plainR x.toNat ≠ 0 then [92, UInt8.ofNat (plainR x.toNat)] else if x.toNat < 32 then [92, 117, 48, 48] ++ hexR (x.toNat / 16) ++ hexR (x.toNat % 16) else [x]

theorem qByte_high {x : UInt8} (h : 128 ≤ x.toNat) : qByte x = [x] := by
  unfold qByte plainR
  have e1 : ¬ (x.toNat = 34 ∨ x.toNat = 92) := by omega
  have e2 : ¬ x.toNat = 8 := by omega
  have e3 : ¬ x.toNat = 12 := by omega
  have e4 : ¬ x.toNat = 10 := by omega
  have e5 : ¬ x.toNat = 13 := by omega
  have e6 : ¬ x.toNat = 9 := by omega
  have e7 : ¬ x.toNat < 32 := by omega
  simp [e1, e2, e3, e4, e5, e6, e7]

theorem flat_high : ∀ {l : List UInt8}, (∀ x ∈ l, 128 ≤ x.toNat) → l.flatMap qByte = l
  | [], _ => rfl
  | x :: l, h => by
    rw [List.flatMap_cons, qByte_high (h x (by simp)), flat_high (fun y hy => h y (by simp [hy]))]
    rfl

theorem hexV_R : ∀ x : Fin 16, hexV x.val = hexR x.val := by decide

theorem outV_low (x : UInt8) (h : x.toNat < 128) : outV x.toNat = qByte x := by
  have hx : encV x.toNat = [x] := by rw [encV, if_pos h]; exact congrArg (· :: []) (ofNat_eq rfl)
  unfold outV
  rw [hx]
  unfold escV qByte plainR
  generalize hn : x.toNat = n at *
  have h16 : hexV (n % 16) = hexR (n % 16) := hexV_R ⟨n % 16, by omega⟩
  by_cases e1 : n = 34
  · subst e1; simp
  by_cases e2 : n = 92
  · subst e2; simp
  by_cases e3 : n = 8
  · subst e3; simp
  by_cases e4 : n = 12
  · subst e4; simp
  by_cases e5 : n = 10
  · subst e5; simp
  by_cases e6 : n = 13
  · subst e6; simp
  by_cases e7 : n = 9
  · subst e7; simp
  by_cases e8 : n < 32
  · have h2 : hexV (n / 16) = hexR (n / 16) := hexV_R ⟨n / 16, by omega⟩
    simp [e1, e2, e3, e4, e5, e6, e7, e8, h16, h2]
  · simp [e1, e2, e3, e4, e5, e6, e7, e8]

theorem outV_high {c : Nat} (h : 128 ≤ c) : outV c = encV c := by
  unfold outV escV
  have e1 : ¬ c = 34 := by omega
  have e1' : ¬ c = 92 := by omega
  have e2 : ¬ c = 8 := by omega
  have e3 : ¬ c = 12 := by omega
  have e4 : ¬ c = 10 := by omega
  have e5 : ¬ c = 13 := by omega
  have e6 : ¬ c = 9 := by omega
  have e7 : ¬ c < 32 := by omega
  simp [e1, e1', e2, e3, e4, e5, e6, e7]

theorem badV_neg (b : List UInt8) (f p : Nat) (hp : p < b.length) (h : badV b (f + 1) p = -1) : (sizeV b p).1 ≠ 0 ∧ badV b f (p + (sizeV b p).1) = -1 := by
  rw [badV, if_pos hp] at h
  split at h
  · omega
  · exact ⟨by assumption, h⟩

theorem quoteB_ref (b : List UInt8) : ∀ f p, p ≤ b.length → b.length < p + f → badV b f p = -1 → quoteB b f p = (b.drop p).flatMap qByte
  | 0, p, hp, hf, _ => by omega
  | f + 1, p, hp, hf, hb => by
    rw [quoteB]
    split
    · rename_i hlt
      obtain ⟨hs, hb'⟩ := badV_neg b f p hlt hb
      obtain ⟨h1, h2⟩ := size_bytes b p hlt hs
      have hle := sizeV_le b p hlt
      have hd : sizeV b p = ((decV b p).2, (decV b p).1) := by
        have := sizeV_dec b p hlt
        split at this
        · rw [this] at hs; simp at hs
        · exact this
      have hd1 : (decV b p).1 = (sizeV b p).2 := by rw [hd]
      have hd2 : (decV b p).2 = (sizeV b p).1 := by rw [hd]
      rw [hd1, hd2]
      rw [quoteB_ref b f _ (by omega) (by omega) hb']
      have hsplit : b.drop p = (b.drop p).take (sizeV b p).1 ++ b.drop (p + (sizeV b p).1) := by rw [← List.drop_drop, List.take_append_drop]
      rw [hsplit, List.flatMap_append]
      congr 1
      rcases h2 with ⟨g1, g2, g3⟩ | ⟨g1, g2⟩
      · rw [g1, g2, outV_low _ g3, take_drop_getD b p 1 (by omega)]
        simp [List.range_succ]
      · rw [outV_high g1, flat_high g2, h1]
    · rw [List.drop_of_length_le (by omega)]; rfl

def quoteR (b : List UInt8) : List UInt8 := 34 :: (b.flatMap qByte ++ [34])

theorem quote_ref (b : List UInt8) (h : rightV b = true) : quoteV b = quoteR b := by
  unfold quoteV quoteR
  rw [quoteB_ref b _ 0 (by omega) (by omega) (by simpa [rightV] using h)]
  rfl

end Go.Proofs.YtadpobnajjocnaaGreatDoor.Eng
