/-
  Payloads: what the functions do, one behind the other. No condition.
-/
import Derived.Test.YtboejpobmpfifaaGreatDoorJBase
import Derived.Test.YtboejpobmpfifaaGreatDoorEngS
import Derived.Lib.DecodeN
import Derived.Lib.RuneCountTail
/-
  Values of JSON, and what the evaluator makes of small functions over them: few. No condition.
-/
namespace Go.Proofs.YtboejpobmpfifaaGreatDoor.Eng
open Go
set_option linter.unusedSimpArgs false
inductive JV where
  | mk (kind n : Int) (s : List UInt8) (l : List JV) (f : List (List UInt8 × JV))

mutual
def vc : JV → List V
  | .mk k n s l f => [.int .i64 k, .int .i64 n, .str s, .sl .no (toVs l), .sl .no (toPs f)]
def toVs : List JV → List V
  | [] => []
  | v :: vs => .agg (vc v) :: toVs vs
def toPs : List (List UInt8 × JV) → List V
  | [] => []
  | p :: ps => .agg (.str p.1 :: vc p.2) :: toPs ps
end
/-- A value. -/
abbrev toV (v : JV) : V := .agg (vc v)
theorem vc_length (v : JV) : (vc v).length = 5 := by cases v; simp [vc]
theorem vc_take (v : JV) : (vc v).take 5 = vc v := List.take_of_length_le (by rw [vc_length]; omega)
mutual
theorem vc_plain : ∀ v : JV, plainL (vc v) = vc v
  | .mk k n s l f => by simp [vc, plainL, V.plain, toVs_plain l, toPs_plain f]
theorem toVs_plain : ∀ l : List JV, plainL (toVs l) = toVs l
  | [] => rfl
  | v :: vs => by simp [toVs, plainL, V.plain, vc_plain v, toVs_plain vs]
theorem toPs_plain : ∀ l : List (List UInt8 × JV), plainL (toPs l) = toPs l
  | [] => rfl
  | p :: ps => by simp [toPs, plainL, V.plain, vc_plain p.2, toPs_plain ps]
end
mutual
theorem vc_und : ∀ (v : JV) (n b : Nat), undL n b (vc v) = true
  | .mk k m s l f, n, b => by simp [vc, undL, V.und, toVs_und l n b, toPs_und f n b]
theorem toVs_und : ∀ (l : List JV) (n b : Nat), undL n b (toVs l) = true
  | [], _, _ => rfl
  | v :: vs, n, b => by simp [toVs, undL, V.und, vc_und v n b, toVs_und vs n b]
theorem toPs_und : ∀ (l : List (List UInt8 × JV)) (n b : Nat), undL n b (toPs l) = true
  | [], _, _ => rfl
  | p :: ps, n, b => by simp [toPs, undL, V.und, vc_und p.2 n b, toPs_und ps n b]
end
def JV.kind : JV → Int | .mk k _ _ _ _ => k
def JV.n : JV → Int | .mk _ n _ _ _ => n
def JV.s : JV → List UInt8 | .mk _ _ s _ _ => s
def JV.l : JV → List JV | .mk _ _ _ l _ => l
def JV.f : JV → List (List UInt8 × JV) | .mk _ _ _ _ f => f

theorem toVs_length (l : List JV) : (toVs l).length = l.length := by induction l <;> simp [toVs, *]
theorem toPs_length (l : List (List UInt8 × JV)) : (toPs l).length = l.length := by induction l <;> simp [toPs, *]
theorem toVs_get (l : List JV) (i : Nat) : (toVs l)[i]? = (l[i]?).map toV := by
  induction l generalizing i with
  | nil => simp [toVs]
  | cons x l ih => cases i <;> simp [toVs, ih]
theorem toPs_get (l : List (List UInt8 × JV)) (i : Nat) : (toPs l)[i]? = (l[i]?).map fun p => .agg (.str p.1 :: vc p.2) := by
  induction l generalizing i with
  | nil => simp [toPs]
  | cons x l ih => cases i <;> simp [toPs, ih]

/-! Numbers that an int64 holds; lengths that an int holds. -/
mutual
def JV.ok : JV → Prop
  | .mk k n s l f => (-9223372036854775808 ≤ k ∧ k ≤ 9223372036854775807) ∧ (-9223372036854775808 ≤ n ∧ n ≤ 9223372036854775807) ∧ s.length ≤ 9223372036854775807 ∧
    l.length ≤ 9223372036854775807 ∧ f.length ≤ 9223372036854775807 ∧ okVs l ∧ okPs f
def okVs : List JV → Prop
  | [] => True
  | v :: vs => v.ok ∧ okVs vs
def okPs : List (List UInt8 × JV) → Prop
  | [] => True
  | p :: ps => p.1.length ≤ 9223372036854775807 ∧ p.2.ok ∧ okPs ps
end
theorem okVs_mem {l : List JV} (h : okVs l) : ∀ v ∈ l, v.ok := by
  induction l with
  | nil => simp
  | cons x l ih => intro v hv; exact (List.mem_cons.1 hv).elim (fun e => e ▸ h.1) (fun hv => ih h.2 v hv)
theorem okPs_mem {l : List (List UInt8 × JV)} (h : okPs l) : ∀ p ∈ l, p.1.length ≤ 9223372036854775807 ∧ p.2.ok := by
  induction l with
  | nil => simp
  | cons x l ih => intro v hv; exact (List.mem_cons.1 hv).elim (fun e => e ▸ ⟨h.1, h.2.1⟩) (fun hv => ih h.2.2 v hv)

/-! ### few -/
mutual
def fewV : JV → Int → Int
  | .mk _ _ s l f, n => if n < 1 ∨ 500 < s.length then -1 else fewPs f (fewVs l (n - 1))
def fewVs : List JV → Int → Int
  | [], n => n
  | v :: vs, n => if 0 ≤ n then fewVs vs (fewV v n) else n
def fewPs : List (List UInt8 × JV) → Int → Int
  | [], n => n
  | p :: ps, n => if 0 ≤ n then if 500 < p.1.length then -1 else fewPs ps (fewV p.2 n) else n
end

attribute [local simp] evC_reg evR_cons evR_nil runR_some regK_some evC_ret evC_skip evC_exit Out_seq Out_blk Out_some seqQ_norm seqQ_ret seqQ_exit blkQ_norm blkQ_ret blkQ_exit loopQ_norm loopQ_ret loopQ_exit
attribute [local simp] stepR evOp put upd_apply X.ev initEnv cells_agg cells_int cells_str cells_bool cells_sl cells_ptr cells_pnil cells_fn cells_map vc_length vc_take vc_plain vc_und takeN evBin isSh intBin strBin callK resOf packR fin V.plain V.und scK kill dstsO dstsL dstsR ite_some ite_pair ite_vbool evUn evLoad evLen V.real finLoop_false quietK_false kill_none

theorem fewLoop1 (k nn : Int) (b : List UInt8) (L : List JV) (f : List (List UInt8 × JV)) (id : Nat) (hL : L.length ≤ 9223372036854775807)
    (ih : ∀ x ∈ L, ∀ (n : Int) (s : St), -1 ≤ n → n ≤ 1000 → call G 107 [toV x, .int .i64 n] s = some (.int .i64 (fewV x n), s)) (hle : ∀ x ∈ L, ∀ n, -1 ≤ fewV x n ∧ (0 ≤ n → fewV x n ≤ n)) (v4 : V) :
    ∀ (m i : Nat) (n : Int) (env : Env) (s : St), L.length - i = m → i ≤ L.length → env 2 = .ptr id 0 → env 1 = .int .i64 n → env 5 = .int .i64 i → env 4 = v4 →
      s.obs[id]? = some (.cells 46 [.int .i64 k, .int .i64 nn, .str b, .sl .no (toVs L), .sl .no (toPs f)]) → -1 ≤ n → n ≤ 1000 →
      Out (evC G (.loop false af107l0) env s) (fun e env' s' => e = .exit 0 ∧ s' = s ∧ env' 1 = .int .i64 (fewVs (L.drop i) n) ∧ env' 2 = .ptr id 0 ∧ env' 4 = v4) := by
  intro m
  induction m with
  | zero =>
    intro i n env s hm hi h2 h1 h5 h4 hs hn0 hn1
    have : i = L.length := by omega
    subst this
    refine Out_loop G false _ _ af107l0.eq_1 _ _ _ ?_
    simp [h2, h1, h5, hs, toVs_length]
    refine Out_cond _ _ _ _ _ _ _ rfl ?_ ?_
    · intro h; cases h
    · intro _
      simp [h2, h1, h4, fewVs]
  | succ m ihm =>
    intro i n env s hm hi h2 h1 h5 h4 hs hn0 hn1
    have hlt : i < L.length := by omega
    refine Out_loop G false _ _ af107l0.eq_1 _ _ _ ?_
    simp [h2, h1, h5, hs, toVs_length, hlt]
    refine Out_cond _ _ _ _ _ _ _ rfl ?_ ?_
    · intro h
      simp at h
      simp [h2, h1, h5, h4, hs, toVs_get, List.getElem?_eq_getElem hlt, ih L[i] (List.getElem_mem hlt) n s hn0 hn1]
      rw [wrap_in (by omega) (by omega)]
      have hd := List.drop_eq_getElem_cons hlt
      have hfew := hle L[i] (List.getElem_mem hlt) n
      refine (ihm (i + 1) (fewV L[i] n) _ s (by omega) (by omega) (by simp [h2]) (by simp) (by simp) (by simp [h4]) hs (by omega) (by omega)).mono ?_
      rintro e env' s' ⟨rfl, rfl, g1, g2, g3⟩
      refine ⟨rfl, rfl, ?_, g2, g3⟩
      rw [g1, hd, fewVs, if_pos h]
    · intro h
      simp at h
      have hd := List.drop_eq_getElem_cons hlt
      simp [h2, h1, h4]
      rw [hd, fewVs, if_neg (by omega)]

theorem fewLoop2 (k nn : Int) (b : List UInt8) (l : List JV) (L : List (List UInt8 × JV)) (id : Nat) (hL : L.length ≤ 9223372036854775807)
    (ih : ∀ x ∈ L, ∀ (n : Int) (s : St), -1 ≤ n → n ≤ 1000 → call G 107 [toV x.2, .int .i64 n] s = some (.int .i64 (fewV x.2 n), s)) (hle : ∀ x ∈ L, ∀ n, -1 ≤ fewV x.2 n ∧ (0 ≤ n → fewV x.2 n ≤ n)) :
    ∀ (m i : Nat) (n : Int) (env : Env) (s : St), L.length - i = m → i ≤ L.length → env 2 = .ptr id 0 → env 1 = .int .i64 n → env 6 = .int .i64 i →
      s.obs[id]? = some (.cells 46 [.int .i64 k, .int .i64 nn, .str b, .sl .no (toVs l), .sl .no (toPs L)]) → -1 ≤ n → n ≤ 1000 →
      Out (evC G (.loop false af107l1) env s) (fun e env' s' => s' = s ∧ ((e = .exit 2 ∧ env' 1 = .int .i64 (fewPs (L.drop i) n)) ∨ (e = .ret ∧ env' 4 = .int .i64 (fewPs (L.drop i) n)))) := by
  intro m
  induction m with
  | zero =>
    intro i n env s hm hi h2 h1 h5 hs hn0 hn1
    have : i = L.length := by omega
    subst this
    refine Out_loop G false _ _ af107l1.eq_1 _ _ _ ?_
    simp [h2, h1, h5, hs, toPs_length]
    refine Out_cond _ _ _ _ _ _ _ rfl ?_ ?_
    · intro h; cases h
    · intro _
      simp [h2, h1, fewPs]
  | succ m ihm =>
    intro i n env s hm hi h2 h1 h5 hs hn0 hn1
    have hlt : i < L.length := by omega
    have hd := List.drop_eq_getElem_cons hlt
    refine Out_loop G false _ _ af107l1.eq_1 _ _ _ ?_
    simp [h2, h1, h5, hs, toPs_length, hlt]
    refine Out_cond _ _ _ _ _ _ _ rfl ?_ ?_
    · intro h
      simp at h
      simp [h2, h1, h5, hs, toPs_get, List.getElem?_eq_getElem hlt]
      refine Out_cond _ _ _ _ _ _ _ rfl ?_ ?_
      · intro h500
        simp at h500
        simp
        rw [hd, fewPs, if_pos h, if_pos (by omega)]
      · intro h500
        simp at h500
        simp [h2, h1, h5, hs, toPs_get, List.getElem?_eq_getElem hlt, ih L[i] (List.getElem_mem hlt) n s hn0 hn1]
        rw [wrap_in (by omega) (by omega)]
        have hfew := hle L[i] (List.getElem_mem hlt) n
        refine (ihm (i + 1) (fewV L[i].2 n) _ s (by omega) (by omega) (by simp [h2]) (by simp) (by simp) hs (by omega) (by omega)).mono ?_
        rintro e env' s' ⟨rfl, g⟩
        refine ⟨rfl, ?_⟩
        rw [hd, fewPs, if_pos h, if_neg (by omega)]
        exact g
    · intro h
      simp at h
      simp [h2, h1]
      rw [hd, fewPs, if_neg (by omega)]

mutual
theorem fewV_le : ∀ (v : JV) (n : Int), -1 ≤ fewV v n ∧ (0 ≤ n → fewV v n ≤ n)
  | .mk k nn s l f, n => by
    unfold fewV
    split
    · omega
    · have h1 := fewVs_le l (n - 1) (by omega)
      have h2 := fewPs_le f (fewVs l (n - 1)) (by omega)
      omega
theorem fewVs_le : ∀ (l : List JV) (n : Int), -1 ≤ n → -1 ≤ fewVs l n ∧ fewVs l n ≤ n
  | [], n, h => by simp [fewVs, h]
  | v :: vs, n, h => by
    unfold fewVs
    split
    · rename_i h0
      have h1 := fewV_le v n
      have h2 := fewVs_le vs (fewV v n) (by omega)
      omega
    · omega
theorem fewPs_le : ∀ (l : List (List UInt8 × JV)) (n : Int), -1 ≤ n → -1 ≤ fewPs l n ∧ fewPs l n ≤ n
  | [], n, h => by simp [fewPs, h]
  | p :: ps, n, h => by
    unfold fewPs
    split
    · split
      · omega
      · have h1 := fewV_le p.2 n
        have h2 := fewPs_le ps (fewV p.2 n) (by omega)
        omega
    · omega
end

theorem few_spec : ∀ (v : JV), v.ok → ∀ (n : Int) (s : St), -1 ≤ n → n ≤ 1000 → call G 107 [toV v, .int .i64 n] s = some (.int .i64 (fewV v n), s)
  | .mk k nn b l f, hok, n, s, hn0, hn1 => by
    obtain ⟨_, _, hb, hl, hf, hokl, hokf⟩ := hok
    have ihl : ∀ x ∈ l, ∀ (n : Int) (s : St), -1 ≤ n → n ≤ 1000 → call G 107 [toV x, .int .i64 n] s = some (.int .i64 (fewV x n), s) := fun x hx => few_spec x (okVs_mem hokl x hx)
    have ihf : ∀ x ∈ f, ∀ (n : Int) (s : St), -1 ≤ n → n ≤ 1000 → call G 107 [toV x.2, .int .i64 n] s = some (.int .i64 (fewV x.2 n), s) := fun x hx => few_spec x.2 (okPs_mem hokf x hx).2
    refine call_out (F := af107) rfl rfl ?_
    simp [af107, af107b, vc]
    refine Out_cond _ _ _ _ _ _ _ rfl ?_ ?_
    · intro h
      simp at h
      simp [fewV]
      omega
    · intro h
      simp at h
      simp
      have hw : IntKind.i64.wrap (n - 1) = n - 1 := wrap_in (by omega) (by omega)
      simp only [hw]
      have hf1 := fewVs_le l (n - 1) (by omega)
      refine (fewLoop1 k nn b l f s.obs.length hl ihl (fun x _ n => fewV_le x n) _ l.length 0 (n - 1) _ _ (by omega) (by omega) (by simp) (by simp) (by simp) rfl (by simp) (by omega) (by omega)).mono ?_
      rintro e env s' ⟨rfl, rfl, g1, g2, g3⟩
      rw [List.drop_zero] at g1
      simp
      refine (fewLoop2 k nn b l f s.obs.length hf ihf (fun x _ n => fewV_le x.2 n) f.length 0 (fewVs l (n - 1)) _ _ (by omega) (by omega) (by simp [g2]) (by simp [g1]) (by simp) (by simp) (by omega) (by omega)).mono ?_
      rintro e env s' ⟨rfl, ⟨rfl, g⟩ | ⟨rfl, g⟩⟩
      · rw [List.drop_zero] at g
        have hn : ¬ (n < 1 ∨ 500 < b.length) := by omega
        simp [g, fewV, hn]
      · rw [List.drop_zero] at g
        have hn : ¬ (n < 1 ∨ 500 < b.length) := by omega
        simp [g, fewV, hn]
termination_by v => SizeOf.sizeOf v
decreasing_by
  · have := List.sizeOf_lt_of_mem hx
    simp; omega
  · have := List.sizeOf_lt_of_mem hx
    obtain ⟨a, b⟩ := x
    simp at this ⊢; omega

end Go.Proofs.YtboejpobmpfifaaGreatDoor.Eng

namespace Go.Proofs.YtboejpobmpfifaaGreatDoor.Eng
open Go
set_option linter.unusedSimpArgs false
set_option linter.unusedVariables false

attribute [local simp] evC_reg evR_cons evR_nil runR_some regK_some evC_ret evC_skip evC_exit Out_seq Out_blk Out_some seqQ_norm seqQ_ret seqQ_exit blkQ_norm blkQ_ret blkQ_exit loopQ_norm loopQ_ret loopQ_exit
attribute [local simp] stepR evOp put upd_apply X.ev initEnv cells_agg cells_int cells_str cells_bool cells_sl cells_ptr cells_pnil cells_fn cells_map takeN evBin isSh intBin strBin callK resOf packR fin V.plain plainL V.und undL scK kill dstsO dstsL dstsR ite_some ite_pair ite_vbool evUn evLoad evLen V.real finLoop_false quietK_false kill_none
/-- The bytes behind the first of a rune. -/
def contV (b : List UInt8) (p n : Nat) : Nat → Nat → Nat → Option Nat
  | 0, _, v => some v
  | m + 1, i, v =>
    let d := (b.getD (p + i) 0).toNat
    if d < 128 ∨ 192 ≤ d then none else contV b p n m (i + 1) (v * 64 + d - 128)

theorem byte_lt (x : UInt8) : x.toNat < 256 := x.toNat_lt

theorem sizeLoop (b : List UInt8) (p n : Nat) (hb : b.length ≤ 9223372036854775807) (hpn : p + n ≤ b.length) (hn : n ≤ 4) (v9 : V) :
    ∀ (m i v : Nat) (env : Env) (s : St), n - i = m → i ≤ n → v < 64 ^ i → env 0 = .str b → env 1 = .int .i64 p → env 7 = .int .i64 n → env 8 = .int .i64 v → env 9 = v9 → env 10 = .int .i64 i →
      Out (evC G (.loop false af229l0) env s) (fun e env' s' => s' = s ∧ match contV b p n m i v with
        | some w => e = .exit 0 ∧ env' 8 = .int .i64 w ∧ env' 7 = .int .i64 n ∧ env' 9 = v9
        | none => e = .ret ∧ env' 4 = .int .i64 0 ∧ env' 5 = .int .i32 0) := by
  intro m
  induction m with
  | zero =>
    intro i v env s hm hi hv h0 h1 h7 h8 h9 h10
    have : i = n := by omega
    subst this
    refine Out_loop G false _ _ af229l0.eq_1 _ _ _ ?_
    simp [h7, h10]
    refine Out_cond _ _ _ _ _ _ _ rfl ?_ ?_
    · intro h; simp at h
    · intro _
      simp [h7, h8, h9, contV]
  | succ m ihm =>
    intro i v env s hm hi hv h0 h1 h7 h8 h9 h10
    have hlt : i < n := by omega
    refine Out_loop G false _ _ af229l0.eq_1 _ _ _ ?_
    simp [h7, h10]
    refine Out_cond _ _ _ _ _ _ _ rfl ?_ ?_
    · intro _
      have hx : b[p + i]? = some (b[p + i]'(by omega)) := List.getElem?_eq_getElem (by omega)
      have hg : b.getD (p + i) 0 = b[p + i]'(by omega) := by simp [List.getD, hx]
      have hd := byte_lt (b[p + i]'(by omega))
      generalize b[p + i]'(by omega) = x at *
      have hw1 : IntKind.i64.wrap ((p : Int) + i) = (p : Int) + i := wrap_in (by omega) (by omega)
      have ht : ((p : Int) + i).toNat = p + i := by omega
      have hge : (0 : Int) ≤ (p : Int) + i := by omega
      have hw2 : IntKind.i64.wrap (x.toNat : Int) = x.toNat := wrap_in (by omega) (by omega)
      have h4 : v ≤ 262144 := by
        have : 64 ^ i ≤ 64 ^ 3 := Nat.pow_le_pow_right (by omega) (by omega)
        omega
      simp only [contV, hg]
      simp [h0, h1, h7, h8, h9, h10, hw1, hx, hw2, ht, hge]
      refine Out_cond _ _ _ _ _ _ _ rfl ?_ ?_
      · intro h
        simp at h
        have hc : x.toNat < 128 ∨ 192 ≤ x.toNat := by omega
        simp [hc]
      · intro h
        simp at h
        have hc : ¬ (x.toNat < 128 ∨ 192 ≤ x.toNat) := by omega
        have e1 : IntKind.i64.wrap ((v : Int) * 64) = (v : Int) * 64 := wrap_in (by omega) (by omega)
        have e2 : IntKind.i64.wrap ((v : Int) * 64 + (x.toNat : Int)) = (v : Int) * 64 + x.toNat := wrap_in (by omega) (by omega)
        have e3 : IntKind.i64.wrap ((v : Int) * 64 + (x.toNat : Int) - 128) = ((v * 64 + x.toNat - 128 : Nat) : Int) := by rw [wrap_in (by omega) (by omega)]; omega
        have e4 : IntKind.i64.wrap ((i : Int) + 1) = ((i + 1 : Nat) : Int) := by rw [wrap_in (by omega) (by omega)]; omega
        simp only [Nat.not_lt, not_or, Nat.not_le] at hc
        simp [h8, h10, e1, e2, e3, e4, hc]
        have hlt' : v * 64 + x.toNat - 128 < 64 ^ (i + 1) := by rw [Nat.pow_succ]; omega
        rw [if_neg (by omega)]
        exact ihm (i + 1) (v * 64 + x.toNat - 128) _ s (by omega) (by omega) hlt' (by simp [h0]) (by simp [h1]) (by simp [h7]) (by simp) (by simp [h9]) (by simp)
    · intro h
      simp at h
      omega

theorem wrap32 {n : Int} (h0 : -2147483648 ≤ n) (h1 : n ≤ 2147483647) : IntKind.i32.wrap n = n := by
  have e : (2 : Int) ^ IntKind.i32.bits = 4294967296 := by decide
  have e' : (2 : Int) ^ (IntKind.i32.bits - 1) = 2147483648 := by decide
  have e'' : IntKind.i32.signed = true := by decide
  unfold IntKind.wrap
  simp only [e, e', e'', Bool.true_and, decide_eq_true_eq, ge_iff_le]
  split <;> omega

/-- A rune's bytes at a place, and the rune; 0: none begins there. -/
def sizeV (b : List UInt8) (p : Nat) : Nat × Nat :=
  let c := (b.getD p 0).toNat
  let go (n v least : Nat) : Nat × Nat :=
    if b.length < p + n then (0, 0) else
    match contV b p n (n - 1) 1 v with
    | none => (0, 0)
    | some w => if w < least ∨ 1114111 < w ∨ (55296 ≤ w ∧ w < 57344) then (0, 0) else (n, w)
  if c < 128 then (1, c)
  else if 194 ≤ c ∧ c < 224 then go 2 (c - 192) 128
  else if 224 ≤ c ∧ c < 240 then go 3 (c - 224) 2048
  else if 240 ≤ c ∧ c < 245 then go 4 (c - 240) 65536
  else (0, 0)

theorem size_spec (b : List UInt8) (p : Nat) (hb : b.length ≤ 9223372036854775807) (hp : p < b.length) (s : St) :
    call G 229 [.str b, .int .i64 p] s = some (.tup [.int .i64 (sizeV b p).1, .int .i32 (sizeV b p).2], s) := by
  have hx : b[p]? = some (b[p]'hp) := List.getElem?_eq_getElem hp
  have hg : b.getD p 0 = b[p]'hp := by simp [List.getD, hx]
  have hd := byte_lt (b[p]'hp)
  have ew2 : IntKind.i64.wrap (IntKind.i64.wrap ((b.length : Int) - 2) + 1) = (b.length : Int) - 2 + 1 := by
    rw [wrap_in (n := (b.length : Int) - 2) (by omega) (by omega), wrap_in (by omega) (by omega)]
  have ew3 : IntKind.i64.wrap (IntKind.i64.wrap ((b.length : Int) - 3) + 1) = (b.length : Int) - 3 + 1 := by
    rw [wrap_in (n := (b.length : Int) - 3) (by omega) (by omega), wrap_in (by omega) (by omega)]
  have ew4 : IntKind.i64.wrap (IntKind.i64.wrap ((b.length : Int) - 4) + 1) = (b.length : Int) - 4 + 1 := by
    rw [wrap_in (n := (b.length : Int) - 4) (by omega) (by omega), wrap_in (by omega) (by omega)]
  generalize b[p]'hp = x at *
  have hw2 : IntKind.i64.wrap (x.toNat : Int) = x.toNat := wrap_in (by omega) (by omega)
  refine call_out (F := af229) rfl rfl ?_
  simp [af229, af229b, hx, hw2]
  refine Out_cond _ _ _ _ _ _ _ rfl ?_ ?_
  · intro h
    simp at h
    have hc0 : x.toNat < 128 := by omega
    have e32 : IntKind.i32.wrap (x.toNat : Int) = x.toNat := wrap32 (by omega) (by omega)
    simp [e32, sizeV, hx, hc0]
  · intro h
    simp at h
    have hc0 : ¬ x.toNat < 128 := by omega
    simp
    refine Out_cond _ _ _ _ _ _ _ rfl ?_ ?_
    · intro h2
      simp at h2
      have h2a : 194 ≤ x.toNat := by omega
      have h2b : x.toNat < 224 := by omega
      have ev : IntKind.i64.wrap ((x.toNat : Int) - 192) = ((x.toNat - 192 : Nat) : Int) := by rw [wrap_in (by omega) (by omega)]; omega
      simp [ev]
      refine Out_cond _ _ _ _ _ _ _ rfl (fun h3 => by simp at h3; omega) (fun _ => ?_)
      simp
      refine Out_cond _ _ _ _ _ _ _ rfl (fun h3 => by simp at h3; omega) (fun _ => ?_)
      simp
      refine Out_cond _ _ _ _ _ _ _ rfl ?_ ?_
      · intro hp
        simp at hp
        have hp' : b.length < p + 2 := by
          rw [ew2] at hp
          omega
        simp [sizeV, hx, hc0, h2a, h2b, hp']
      · intro hp
        simp at hp
        have hp' : ¬ (b.length < p + 2) := by
          rw [ew2] at hp
          omega
        have hpn : p + 2 ≤ b.length := by
          rw [ew2] at hp
          omega
        simp
        refine (sizeLoop b p 2 hb hpn (by omega) (.int .i64 128) 1 1 (x.toNat - 192) _ _ (by omega) (by omega) (by simp; omega) (by simp) (by simp) (by simp) (by simp) (by simp) (by simp)).mono ?_
        rintro e env s' ⟨rfl, hq⟩
        cases hcv : contV b p 2 1 1 (x.toNat - 192) with
        | none =>
          rw [hcv] at hq
          obtain ⟨rfl, q4, q5⟩ := hq
          simp [q4, q5, sizeV, hx, hc0, h2a, h2b, hp', hcv]
        | some w =>
          rw [hcv] at hq
          obtain ⟨rfl, q8, q7, q9⟩ := hq
          simp [q8, q7, q9]
          refine Out_cond _ _ _ _ _ _ _ rfl ?_ ?_
          · intro hw
            simp at hw
            have hw' : w < 128 ∨ 1114111 < w ∨ (55296 ≤ w ∧ w < 57344) := by omega
            simp [sizeV, hx, hc0, h2a, h2b, hp', hcv, hw']
          · intro hw
            simp at hw
            have hw' : ¬ (w < 128 ∨ 1114111 < w ∨ (55296 ≤ w ∧ w < 57344)) := by omega
            have e32 : IntKind.i32.wrap (w : Int) = w := wrap32 (by omega) (by omega)
            simp [q7, q8, e32, sizeV, hx, hc0, h2a, h2b, hp', hcv, hw']
    · intro h2
      simp at h2
      have n2 : ¬ (194 ≤ x.toNat ∧ x.toNat < 224) := by omega
      simp
      refine Out_cond _ _ _ _ _ _ _ rfl ?_ ?_
      · intro h3
        simp at h3
        have h3a : 224 ≤ x.toNat := by omega
        have h3b : x.toNat < 240 := by omega
        have ev : IntKind.i64.wrap ((x.toNat : Int) - 224) = ((x.toNat - 224 : Nat) : Int) := by rw [wrap_in (by omega) (by omega)]; omega
        simp [ev]
        refine Out_cond _ _ _ _ _ _ _ rfl (fun h3 => by simp at h3; omega) (fun _ => ?_)
        simp
        refine Out_cond _ _ _ _ _ _ _ rfl ?_ ?_
        · intro hp
          simp at hp
          have hp' : b.length < p + 3 := by
            rw [ew3] at hp
            omega
          simp [sizeV, hx, hc0, n2, h3a, h3b, hp']
        · intro hp
          simp at hp
          have hp' : ¬ (b.length < p + 3) := by
            rw [ew3] at hp
            omega
          have hpn : p + 3 ≤ b.length := by
            rw [ew3] at hp
            omega
          simp
          refine (sizeLoop b p 3 hb hpn (by omega) (.int .i64 2048) 2 1 (x.toNat - 224) _ _ (by omega) (by omega) (by simp; omega) (by simp) (by simp) (by simp) (by simp) (by simp) (by simp)).mono ?_
          rintro e env s' ⟨rfl, hq⟩
          cases hcv : contV b p 3 2 1 (x.toNat - 224) with
          | none =>
            rw [hcv] at hq
            obtain ⟨rfl, q4, q5⟩ := hq
            simp [q4, q5, sizeV, hx, hc0, n2, h3a, h3b, hp', hcv]
          | some w =>
            rw [hcv] at hq
            obtain ⟨rfl, q8, q7, q9⟩ := hq
            simp [q8, q7, q9]
            refine Out_cond _ _ _ _ _ _ _ rfl ?_ ?_
            · intro hw
              simp at hw
              have hw' : w < 2048 ∨ 1114111 < w ∨ (55296 ≤ w ∧ w < 57344) := by omega
              simp [sizeV, hx, hc0, n2, h3a, h3b, hp', hcv, hw']
            · intro hw
              simp at hw
              have hw' : ¬ (w < 2048 ∨ 1114111 < w ∨ (55296 ≤ w ∧ w < 57344)) := by omega
              have e32 : IntKind.i32.wrap (w : Int) = w := wrap32 (by omega) (by omega)
              simp [q7, q8, e32, sizeV, hx, hc0, n2, h3a, h3b, hp', hcv, hw']
      · intro h3
        simp at h3
        have n3 : ¬ (224 ≤ x.toNat ∧ x.toNat < 240) := by omega
        simp
        refine Out_cond _ _ _ _ _ _ _ rfl ?_ ?_
        · intro h4
          simp at h4
          have h4a : 240 ≤ x.toNat := by omega
          have h4b : x.toNat < 245 := by omega
          have ev : IntKind.i64.wrap ((x.toNat : Int) - 240) = ((x.toNat - 240 : Nat) : Int) := by rw [wrap_in (by omega) (by omega)]; omega
          simp [ev]
          refine Out_cond _ _ _ _ _ _ _ rfl ?_ ?_
          · intro hp
            simp at hp
            have hp' : b.length < p + 4 := by
              rw [ew4] at hp
              omega
            simp [sizeV, hx, hc0, n2, n3, h4a, h4b, hp']
          · intro hp
            simp at hp
            have hp' : ¬ (b.length < p + 4) := by
              rw [ew4] at hp
              omega
            have hpn : p + 4 ≤ b.length := by
              rw [ew4] at hp
              omega
            simp
            refine (sizeLoop b p 4 hb hpn (by omega) (.int .i64 65536) 3 1 (x.toNat - 240) _ _ (by omega) (by omega) (by simp; omega) (by simp) (by simp) (by simp) (by simp) (by simp) (by simp)).mono ?_
            rintro e env s' ⟨rfl, hq⟩
            cases hcv : contV b p 4 3 1 (x.toNat - 240) with
            | none =>
              rw [hcv] at hq
              obtain ⟨rfl, q4, q5⟩ := hq
              simp [q4, q5, sizeV, hx, hc0, n2, n3, h4a, h4b, hp', hcv]
            | some w =>
              rw [hcv] at hq
              obtain ⟨rfl, q8, q7, q9⟩ := hq
              simp [q8, q7, q9]
              refine Out_cond _ _ _ _ _ _ _ rfl ?_ ?_
              · intro hw
                simp at hw
                have hw' : w < 65536 ∨ 1114111 < w ∨ (55296 ≤ w ∧ w < 57344) := by omega
                simp [sizeV, hx, hc0, n2, n3, h4a, h4b, hp', hcv, hw']
              · intro hw
                simp at hw
                have hw' : ¬ (w < 65536 ∨ 1114111 < w ∨ (55296 ≤ w ∧ w < 57344)) := by omega
                have e32 : IntKind.i32.wrap (w : Int) = w := wrap32 (by omega) (by omega)
                simp [q7, q8, e32, sizeV, hx, hc0, n2, n3, h4a, h4b, hp', hcv, hw']
        · intro h4
          simp at h4
          have n4 : ¬ (240 ≤ x.toNat ∧ x.toNat < 245) := by omega
          simp
          refine Out_cond _ _ _ _ _ _ _ rfl (fun _ => ?_) (fun h5 => by simp at h5)
          simp [sizeV, hx, hc0, n2, n3, n4]

theorem sizeV_le (b : List UInt8) (p : Nat) (hp : p < b.length) : (sizeV b p).1 ≤ 4 ∧ p + (sizeV b p).1 ≤ b.length ∧ (sizeV b p).2 ≤ 1114111 := by
  unfold sizeV
  have hd := byte_lt (b.getD p 0)
  generalize b.getD p 0 = x at *
  have go : ∀ n v least, n ≤ 4 → (if b.length < p + n then (0, 0) else match contV b p n (n - 1) 1 v with
    | none => (0, 0)
    | some w => if w < least ∨ 1114111 < w ∨ (55296 ≤ w ∧ w < 57344) then (0, 0) else (n, w) : Nat × Nat).1 ≤ 4 ∧
    p + (if b.length < p + n then (0, 0) else match contV b p n (n - 1) 1 v with
    | none => (0, 0)
    | some w => if w < least ∨ 1114111 < w ∨ (55296 ≤ w ∧ w < 57344) then (0, 0) else (n, w) : Nat × Nat).1 ≤ b.length ∧ (if b.length < p + n then (0, 0) else match contV b p n (n - 1) 1 v with
    | none => (0, 0)
    | some w => if w < least ∨ 1114111 < w ∨ (55296 ≤ w ∧ w < 57344) then (0, 0) else (n, w) : Nat × Nat).2 ≤ 1114111 := by
    intro n v least hn
    split
    · simp; omega
    · split
      · simp; omega
      · split
        · simp; omega
        · simp; omega
  simp only
  split
  · simp; omega
  · split
    · exact go 2 _ _ (by omega)
    · split
      · exact go 3 _ _ (by omega)
      · split
        · exact go 4 _ _ (by omega)
        · simp; omega

/-- Where no rune begins; -1. -/
def badV (b : List UInt8) : Nat → Nat → Int
  | 0, _ => -1
  | f + 1, p => if p < b.length then if (sizeV b p).1 = 0 then p else badV b f (p + (sizeV b p).1) else -1

theorem badLoop (b : List UInt8) (hb : b.length ≤ 9223372036854775807) : ∀ (f p : Nat) (env : Env) (s : St), p ≤ b.length → b.length < p + f → env 0 = .str b → env 3 = .int .i64 p →
    Out (evC G (.loop false af150l0) env s) (fun e env' s' => s' = s ∧ ((badV b f p = -1 ∧ e = .exit 0) ∨ (badV b f p ≠ -1 ∧ e = .ret ∧ env' 2 = .int .i64 (badV b f p)))) := by
  intro f
  induction f with
  | zero => intro p env s h1 h2; omega
  | succ f ih =>
    intro p env s hp hf h0 h3
    refine Out_loop G false _ _ af150l0.eq_1 _ _ _ ?_
    simp [h0, h3]
    refine Out_cond _ _ _ _ _ _ _ rfl ?_ ?_
    · intro hlt
      simp at hlt
      have hs := sizeV_le b p hlt
      simp [h0, h3, size_spec b p hb hlt]
      refine Out_cond _ _ _ _ _ _ _ rfl ?_ ?_
      · intro hz
        simp at hz
        simp [h3, badV, hlt, hz]
      · intro hz
        simp at hz
        have hw : IntKind.i64.wrap ((p : Int) + ((sizeV b p).1 : Int)) = ((p + (sizeV b p).1 : Nat) : Int) := by rw [wrap_in (by omega) (by omega)]; omega
        simp only [badV, if_pos hlt, if_neg hz]
        simp [h3, hw]
        exact ih (p + (sizeV b p).1) _ s (by omega) (by omega) (by simp [h0]) (by simp)
    · intro hge
      simp at hge
      have : ¬ p < b.length := by omega
      simp [badV, this]

theorem badV_ge (b : List UInt8) : ∀ f p, -1 ≤ badV b f p
  | 0, p => by simp [badV]
  | f + 1, p => by
    unfold badV
    split
    · split
      · omega
      · exact badV_ge b f _
    · omega

theorem bad_spec (b : List UInt8) (hb : b.length ≤ 9223372036854775807) (s : St) : call G 150 [.str b] s = some (.int .i64 (badV b (b.length + 1) 0), s) := by
  refine call_out (F := af150) rfl rfl ?_
  simp [af150, af150b]
  refine (badLoop b hb (b.length + 1) 0 _ _ (by omega) (by omega) (by simp) (by simp)).mono ?_
  rintro e env s' ⟨rfl, ⟨h1, rfl⟩ | ⟨h1, rfl, h2⟩⟩
  · simp [h1]
  · simp [h2]

theorem right_spec (b : List UInt8) (hb : b.length ≤ 9223372036854775807) (s : St) : call G 87 [.str b] s = some (.bool (decide (badV b (b.length + 1) 0 = -1)), s) := by
  refine call_out (F := af87) rfl rfl ?_
  simp [af87, af87b, bad_spec b hb]

/-! ### The program's -/
theorem nxt_at (b : List UInt8) (pos id : Nat) (s : St) (h : s.obs[id]? = some (.iter b pos)) (hp : pos < b.length) :
    evNxt (.itr id) s = some (.tup [.bool true, .int .i64 pos, .int .i32 (Utf8.decode ⟨b.toArray⟩ pos).1], { s with obs := s.obs.set id (.iter b (pos + (Utf8.decode ⟨b.toArray⟩ pos).2)) }) := by
  simp only [evNxt, h, if_pos hp]
theorem nxt_end (b : List UInt8) (pos id : Nat) (s : St) (h : s.obs[id]? = some (.iter b pos)) (hp : ¬ pos < b.length) :
    evNxt (.itr id) s = some (.tup [.bool false], s) := by
  simp only [evNxt, h, if_neg hp]

theorem dec_spec (b : List UInt8) (s : St) : call G 240 [.str b] s = some (.tup [.int .i32 (Lib.decodeGo ⟨b.toArray⟩).1, .int .i64 (Lib.decodeGo ⟨b.toArray⟩).2], s) := by
  rw [call_eq]
  rfl

/-- A rune at a place, as Go's range decodes it. -/
def decV (b : List UInt8) (p : Nat) : Nat × Nat := Utf8.decode ⟨b.toArray⟩ p

theorem decV_le (b : List UInt8) (p : Nat) (hp : p < b.length) : 1 ≤ (decV b p).2 ∧ p + (decV b p).2 ≤ b.length ∧ (decV b p).1 ≤ 1114111 := by
  unfold decV
  rw [Lib.decode_at]
  have hs : (⟨b.toArray⟩ : ByteArray).size = b.length := rfl
  rw [hs]
  generalize ((⟨b.toArray⟩ : ByteArray).get! p).toNat = b0
  generalize ((⟨b.toArray⟩ : ByteArray).get! (p + 1)).toNat = b1
  generalize ((⟨b.toArray⟩ : ByteArray).get! (p + 2)).toNat = b2
  generalize ((⟨b.toArray⟩ : ByteArray).get! (p + 3)).toNat = b3
  unfold Lib.decodeN
  repeat' split
  all_goals (simp only; omega)

def textBadV (b : List UInt8) : Nat → Nat → Int
  | 0, _ => -1
  | f + 1, p =>
    if p < b.length then
      if (decV b p).1 ≠ 65533 then textBadV b f (p + (decV b p).2)
      else if (Lib.decodeGo ⟨(b.drop p).toArray⟩).2 = 1 then p
      else textBadV b f (p + (decV b p).2)
    else -1

theorem textBadLoop (b : List UInt8) (hb : b.length ≤ 9223372036854775807) (id : Nat) : ∀ (f p : Nat) (env : Env) (s : St), p ≤ b.length → b.length < p + f → env 0 = .str b → env 8 = .itr id → s.obs[id]? = some (.iter b p) →
    Out (evC G (.loop false af172l0) env s) (fun e env' s' => (s'.bufs = s.bufs ∧ ∃ o, s'.obs = s.obs.set id o) ∧
      ((textBadV b f p = -1 ∧ e = .exit 0) ∨ (textBadV b f p ≠ -1 ∧ e = .ret ∧ env' 2 = .int .i64 (textBadV b f p)))) := by
  intro f
  induction f with
  | zero => intro p env s h1 h2; omega
  | succ f ih =>
    intro p env s hp hf h0 h8 hs
    refine Out_loop G false _ _ af172l0.eq_1 _ _ _ ?_
    by_cases hlt : p < b.length
    · have hd := decV_le b p hlt
      have hid : id < s.obs.length := lt_of_get hs
      simp [h0, h8, nxt_at b p id s hs hlt]
      refine Out_cond _ _ _ _ _ _ _ rfl (fun _ => ?_) (fun h => by cases h)
      simp
      have hnext : ∀ (env' : Env), env' 0 = .str b → env' 8 = .itr id →
          Out (evC G (.loop false af172l0) env' { obs := s.obs.set id (.iter b (p + (decV b p).2)), bufs := s.bufs }) (fun e env' s' => (s'.bufs = s.bufs ∧ ∃ o, s'.obs = s.obs.set id o) ∧
            ((textBadV b f (p + (decV b p).2) = -1 ∧ e = .exit 0) ∨ (textBadV b f (p + (decV b p).2) ≠ -1 ∧ e = .ret ∧ env' 2 = .int .i64 (textBadV b f (p + (decV b p).2))))) := by
        intro env' g0 g8
        refine (ih (p + (decV b p).2) env' _ (by omega) (by omega) g0 g8 (by simp [hid])).mono ?_
        rintro e env'' s' ⟨⟨g1, o, g2⟩, g3⟩
        refine ⟨⟨g1, o, ?_⟩, g3⟩
        rw [g2]
        simp
      refine Out_cond _ _ _ _ _ _ _ rfl ?_ ?_
      · intro h
        have hne : (decV b p).1 ≠ 65533 := by
          intro e
          unfold decV at e
          simp [e] at h
        simp
        simp only [textBadV, if_pos hlt, if_pos hne]
        exact hnext _ (by simp [h0]) (by simp [h8])
      · intro h
        have heq : (decV b p).1 = 65533 := by
          simp at h
          unfold decV
          omega
        simp [h0, evSlcS, bnd, dec_spec, hp]
        refine Out_cond _ _ _ _ _ _ _ rfl ?_ ?_
        · intro h1
          simp at h1
          have h1' : (Lib.decodeGo ⟨(b.drop p).toArray⟩).2 = 1 := by omega
          have hv : textBadV b (f + 1) p = p := by simp [textBadV, hlt, heq, h1']
          simp [hv]
          exact ⟨_, rfl⟩
        · intro h1
          simp at h1
          have h1' : ¬ (Lib.decodeGo ⟨(b.drop p).toArray⟩).2 = 1 := by omega
          have hv : textBadV b (f + 1) p = textBadV b f (p + (decV b p).2) := by simp [textBadV, hlt, heq, h1']
          simp
          rw [hv]
          exact hnext _ (by simp [h0]) (by simp [h8])
    · simp [h0, h8, nxt_end b p id s hs hlt]
      refine Out_cond _ _ _ _ _ _ _ rfl (fun h => by cases h) (fun _ => ?_)
      simp [textBadV, hlt]
      exact ⟨.iter b p, by
        apply List.ext_getElem?
        intro j
        by_cases hj : id = j
        · subst hj; rw [List.getElem?_set_self (lt_of_get hs), hs]
        · rw [List.getElem?_set_ne hj]⟩

theorem textBad_spec (b : List UInt8) (hb : b.length ≤ 9223372036854775807) (s : St) : call G 172 [.str b] s = some (.int .i64 (textBadV b (b.length + 1) 0), s) := by
  refine call_out (F := af172) rfl rfl ?_
  simp [af172, af172b]
  refine (textBadLoop b hb s.obs.length (b.length + 1) 0 _ _ (by omega) (by omega) (by simp) (by simp) (by simp)).mono ?_
  rintro e env s' ⟨⟨hbf, o, hob⟩, ⟨h1, rfl⟩ | ⟨h1, rfl, h2⟩⟩
  · simp [h1, hbf, hob, List.set_append]
  · simp [h2, hbf, hob, List.set_append]

theorem textRight_spec (b : List UInt8) (hb : b.length ≤ 9223372036854775807) (s : St) : call G 97 [.str b] s = some (.bool (decide (textBadV b (b.length + 1) 0 < 0)), s) := by
  refine call_out (F := af97) rfl rfl ?_
  simp [af97, af97b, textBad_spec b hb]

/-! ### They are one -/
theorem get!_list (b : List UInt8) (p : Nat) : (⟨b.toArray⟩ : ByteArray).get! p = b.getD p 0 := by
  have := Lib.getD_get!' ⟨b.toArray⟩ p
  simpa using this.symm

theorem sizeV_dec (b : List UInt8) (p : Nat) (hp : p < b.length) : sizeV b p = if decV b p = (65533, 1) then (0, 0) else ((decV b p).2, (decV b p).1) := by
  unfold decV sizeV
  rw [Lib.decode_at]
  have hs : (⟨b.toArray⟩ : ByteArray).size = b.length := rfl
  rw [hs]
  simp only [get!_list, contV]
  have e1 := byte_lt (b.getD p 0)
  have e2 := byte_lt (b.getD (p + 1) 0)
  have e3 := byte_lt (b.getD (p + 2) 0)
  have e4 := byte_lt (b.getD (p + 3) 0)
  generalize (b.getD p 0).toNat = b0 at *
  generalize (b.getD (p + 1) 0).toNat = b1 at *
  generalize (b.getD (p + 1 + 1) 0).toNat = b2 at *
  generalize (b.getD (p + 3) 0).toNat = b3 at *
  generalize b.length = n at *
  have n1 : (1 < n - p) = ¬ (n < p + 2) := propext ⟨fun h => by omega, fun h => by omega⟩
  have n2 : (2 < n - p) = ¬ (n < p + 3) := propext ⟨fun h => by omega, fun h => by omega⟩
  have n3 : (3 < n - p) = ¬ (n < p + 4) := propext ⟨fun h => by omega, fun h => by omega⟩
  have d1 : (b1 / 64 = 2) = ¬ (b1 < 128 ∨ 192 ≤ b1) := propext ⟨fun h => by omega, fun h => by omega⟩
  have d2 : (b2 / 64 = 2) = ¬ (b2 < 128 ∨ 192 ≤ b2) := propext ⟨fun h => by omega, fun h => by omega⟩
  have d3 : (b3 / 64 = 2) = ¬ (b3 < 128 ∨ 192 ≤ b3) := propext ⟨fun h => by omega, fun h => by omega⟩
  by_cases c0 : b0 < 128
  · simp only [if_pos c0, Lib.decodeN]
    simp
    omega
  · simp only [if_neg c0, Lib.decodeN, n1, n2, n3, d1, d2, d3]
    by_cases k2 : 194 ≤ b0 ∧ b0 < 224
    · have q1 : b0 / 32 = 6 := by omega
      have q2 : ¬ b0 / 16 = 14 := by omega
      have q3 : ¬ b0 / 8 = 30 := by omega
      simp only [if_pos k2, q1, q2, q3, true_and, false_and, if_false]
      by_cases m2 : n < p + 2
      · simp [m2]
      · by_cases c1 : b1 < 128 ∨ 192 ≤ b1
        · simp [m2, c1]
        · have hv : b0 % 32 * 64 + b1 % 64 = (b0 - 192) * 64 + b1 - 128 := by omega
          have h1 : 128 ≤ (b0 - 192) * 64 + b1 - 128 := by omega
          have h2 : ¬ ((b0 - 192) * 64 + b1 - 128 < 128 ∨ 1114111 < (b0 - 192) * 64 + b1 - 128 ∨ 55296 ≤ (b0 - 192) * 64 + b1 - 128 ∧ (b0 - 192) * 64 + b1 - 128 < 57344) := by omega
          simp only [if_neg m2, if_neg c1, hv, ge_iff_le, if_pos h1, if_neg h2, m2, c1, not_false_eq_true, and_self, if_true, if_false]
          simp
          try omega
    · simp only [if_neg k2]
      by_cases k3 : 224 ≤ b0 ∧ b0 < 240
      · have q1 : ¬ b0 / 32 = 6 := by omega
        have q2 : b0 / 16 = 14 := by omega
        have q3 : ¬ b0 / 8 = 30 := by omega
        simp only [if_pos k3, q1, q2, q3, true_and, false_and, if_false]
        by_cases m2 : n < p + 3
        · simp [m2]
        · have m1 : ¬ n < p + 2 := by omega
          by_cases c1 : b1 < 128 ∨ 192 ≤ b1
          · simp [m2, c1]
          · by_cases c2 : b2 < 128 ∨ 192 ≤ b2
            · simp [m2, c1, c2]
            · have hv : b0 % 16 * 4096 + b1 % 64 * 64 + b2 % 64 = ((b0 - 224) * 64 + b1 - 128) * 64 + b2 - 128 := by omega
              simp only [if_neg m2, if_neg c1, if_neg c2, hv, m1, m2, c1, c2, not_false_eq_true, and_self, if_true, if_false]
              generalize ((b0 - 224) * 64 + b1 - 128) * 64 + b2 - 128 = w at *
              by_cases hw : w < 2048 ∨ 1114111 < w ∨ 55296 ≤ w ∧ w < 57344
              · have hc : ¬ (w ≥ 2048 ∧ (w < 55296 ∨ 57344 ≤ w ∧ w ≤ 1114111)) := by omega
                simp only [if_pos hw, if_neg hc, if_true]
              · have hc : w ≥ 2048 ∧ (w < 55296 ∨ 57344 ≤ w ∧ w ≤ 1114111) := by omega
                have hx : ¬ ((w, 3) : Nat × Nat) = (65533, 1) := by simp
                simp only [if_neg hw, if_pos hc, if_neg hx]
      · simp only [if_neg k3]
        by_cases k4 : 240 ≤ b0 ∧ b0 < 245
        · have q1 : ¬ b0 / 32 = 6 := by omega
          have q2 : ¬ b0 / 16 = 14 := by omega
          have q3 : b0 / 8 = 30 := by omega
          simp only [if_pos k4, q1, q2, q3, true_and, false_and, if_false]
          by_cases m2 : n < p + 4
          · simp [m2]
          · have m1 : ¬ n < p + 2 := by omega
            have m3 : ¬ n < p + 3 := by omega
            by_cases c1 : b1 < 128 ∨ 192 ≤ b1
            · simp [m2, c1]
            · by_cases c2 : b2 < 128 ∨ 192 ≤ b2
              · simp [m2, c1, c2]
              · by_cases c3 : b3 < 128 ∨ 192 ≤ b3
                · simp [m2, c1, c2, c3]
                · have hv : b0 % 8 * 262144 + b1 % 64 * 4096 + b2 % 64 * 64 + b3 % 64 = (((b0 - 240) * 64 + b1 - 128) * 64 + b2 - 128) * 64 + b3 - 128 := by omega
                  simp only [if_neg m2, if_neg c1, if_neg c2, if_neg c3, hv, m1, m2, m3, c1, c2, c3, not_false_eq_true, and_self, if_true, if_false]
                  generalize (((b0 - 240) * 64 + b1 - 128) * 64 + b2 - 128) * 64 + b3 - 128 = w at *
                  by_cases hw : w < 65536 ∨ 1114111 < w ∨ 55296 ≤ w ∧ w < 57344
                  · have hc : ¬ (w ≥ 65536 ∧ (w < 55296 ∨ 57344 ≤ w ∧ w ≤ 1114111)) := by omega
                    simp only [if_pos hw, if_neg hc, if_true]
                  · have hc : w ≥ 65536 ∧ (w < 55296 ∨ 57344 ≤ w ∧ w ≤ 1114111) := by omega
                    have hx : ¬ ((w, 4) : Nat × Nat) = (65533, 1) := by simp
                    simp only [if_neg hw, if_pos hc, if_neg hx]
        · simp only [if_neg k4]
          have q2 : ¬ b0 / 16 = 14 := by omega
          simp only [q2, false_and, if_false]
          have r1 : b0 / 32 = 6 → ¬ (b0 % 32 * 64 + b1 % 64 ≥ 128) := by omega
          have r2 : b0 / 8 = 30 → ¬ (b0 % 8 * 262144 + b1 % 64 * 4096 + b2 % 64 * 64 + b3 % 64 ≥ 65536 ∧
            (b0 % 8 * 262144 + b1 % 64 * 4096 + b2 % 64 * 64 + b3 % 64 < 55296 ∨ 57344 ≤ b0 % 8 * 262144 + b1 % 64 * 4096 + b2 % 64 * 64 + b3 % 64 ∧ b0 % 8 * 262144 + b1 % 64 * 4096 + b2 % 64 * 64 + b3 % 64 ≤ 1114111)) := by omega
          by_cases q1 : b0 / 32 = 6
          · have q3 : ¬ b0 / 8 = 30 := by omega
            simp only [q1, q3, if_neg (r1 q1), true_and, false_and, if_false, ite_self, if_true]
          · by_cases q3 : b0 / 8 = 30
            · simp only [q1, q3, if_neg (r2 q3), true_and, false_and, if_false, ite_self, if_true]
            · simp only [q1, q3, true_and, false_and, if_false, ite_self, if_true]

theorem decGo_drop (b : List UInt8) (p : Nat) (hp : p < b.length) : Lib.decodeGo ⟨(b.drop p).toArray⟩ = decV b p := by
  have hs : (⟨(b.drop p).toArray⟩ : ByteArray).size = b.length - p := by
    show (b.drop p).toArray.size = _
    simp
  have hs2 : (⟨b.toArray⟩ : ByteArray).size = b.length := rfl
  unfold Lib.decodeGo decV
  rw [if_neg (by omega), Lib.decode_at, Lib.decode_at, hs, hs2]
  simp only [get!_list, Nat.sub_zero]
  have hd : ∀ i, (b.drop p).getD i 0 = b.getD (p + i) 0 := fun i => by simp [List.getD, List.getElem?_drop]
  simp only [hd, Nat.add_zero, Nat.zero_add]

theorem textBad_bad (b : List UInt8) : ∀ f p, textBadV b f p = badV b f p
  | 0, _ => rfl
  | f + 1, p => by
    unfold textBadV badV
    split
    · rename_i hp
      have hd := decV_le b p hp
      rw [decGo_drop b p hp, sizeV_dec b p hp]
      by_cases h1 : (decV b p).1 = 65533
      · by_cases h2 : (decV b p).2 = 1
        · have e : decV b p = (65533, 1) := Prod.ext h1 h2
          simp [e]
        · have e : ¬ decV b p = (65533, 1) := fun q => h2 (by rw [q])
          have h3 : ¬ (decV b p).2 = 0 := by omega
          simp [h1, h2, e, h3, textBad_bad b f]
      · have e : ¬ decV b p = (65533, 1) := fun q => h1 (by rw [q])
        have h3 : ¬ (decV b p).2 = 0 := by omega
        simp [h1, e, h3, textBad_bad b f]
    · rfl

/-- A text is right: P1.1. -/
def rightV (b : List UInt8) : Bool := decide (badV b (b.length + 1) 0 = -1)

theorem refRight_spec (b : List UInt8) (hb : b.length ≤ 9223372036854775807) (s : St) : call G 87 [.str b] s = some (.bool (rightV b), s) := right_spec b hb s

theorem textRight_spec' (b : List UInt8) (hb : b.length ≤ 9223372036854775807) (s : St) : call G 97 [.str b] s = some (.bool (rightV b), s) := by
  rw [textRight_spec b hb, textBad_bad]
  have := badV_ge b (b.length + 1) 0
  have e : decide (badV b (b.length + 1) 0 < 0) = rightV b := by
    unfold rightV
    by_cases h : badV b (b.length + 1) 0 = -1
    · simp [h]
    · have : ¬ badV b (b.length + 1) 0 < 0 := by omega
      simp [h, this]
  rw [e]

end Go.Proofs.YtboejpobmpfifaaGreatDoor.Eng

namespace Go.Proofs.YtboejpobmpfifaaGreatDoor.Eng
open Go
set_option linter.unusedSimpArgs false
set_option linter.unusedVariables false

attribute [local simp] evC_reg evR_cons evR_nil runR_some regK_some evC_ret evC_skip evC_exit Out_seq Out_blk Out_some seqQ_norm seqQ_ret seqQ_exit blkQ_norm blkQ_ret blkQ_exit loopQ_norm loopQ_ret loopQ_exit
attribute [local simp] stepR evOp put upd_apply X.ev initEnv cells_agg cells_int cells_str cells_bool cells_sl cells_ptr cells_pnil cells_fn cells_map vc_length vc_take vc_plain vc_und toVs_plain toPs_plain toVs_und toPs_und takeN evBin isSh intBin strBin callK resOf packR fin V.plain plainL V.und undL scK kill dstsO dstsL dstsR ite_some ite_pair ite_vbool evUn evLoad evLen V.real finLoop_false quietK_false kill_none
/-- What a kind doesn't use is zero. -/
def unusedV : JV → Bool
  | .mk k n s l f => (decide (k = 1) || decide (k = 2) || decide (n = 0)) && (decide (k = 3) || decide (s = [])) && (decide (k = 4) || decide (l = [])) && (decide (k = 5) || decide (f = []))

theorem unused_spec (v : JV) (s : St) : call G 160 [toV v] s = some (.bool (unusedV v), s) := by
  obtain ⟨k, n, b, l, f⟩ := v
  refine call_out (F := af160) rfl rfl ?_
  simp [af160, af160b, vc, toVs_length, toPs_length, unusedV]

/-! ### slices.IndexFunc, ContainsFunc -/
/-- The first of which it holds. -/
def idxV {α : Type} (g : α → Bool) : List α → Nat → Int
  | [], _ => -1
  | x :: xs, i => if g x then i else idxV g xs (i + 1)

/-- A pair. -/
abbrev pv (p : List UInt8 × JV) : V := .agg (.str p.1 :: vc p.2)

theorem idxLoop42 (L : List JV) (hL : L.length ≤ 9223372036854775807) (f : FuncId) (cap : List V) (hcap : plainL cap = cap) (g : JV → Bool) :
    ∀ (m i : Nat) (env : Env) (s : St), L.length - i = m → i ≤ L.length → env 0 = .sl .no (toVs L) → env 1 = .fn (.func f) [] cap → env 7 = .int .i64 L.length → env 8 = .int .i64 i →
      (∀ x ∈ L, call G f (toV x :: cap) s = some (.bool (g x), s)) →
      Out (evC G (.loop false af233l0) env s) (fun e env' s' => s' = s ∧ ((idxV g (L.drop i) i = -1 ∧ e = .exit 0) ∨ (idxV g (L.drop i) i ≠ -1 ∧ e = .ret ∧ env' 4 = .int .i64 (idxV g (L.drop i) i)))) := by
  intro m
  induction m with
  | zero =>
    intro i env s hm hi h0 h1 h7 h8 hc
    have : i = L.length := by omega
    subst this
    refine Out_loop G false _ _ af233l0.eq_1 _ _ _ ?_
    simp [h7, h8]
    refine Out_cond _ _ _ _ _ _ _ rfl (fun h => by simp at h) (fun _ => ?_)
    simp [idxV]
  | succ m ihm =>
    intro i env s hm hi h0 h1 h7 h8 hc
    have hlt : i < L.length := by omega
    have hd := List.drop_eq_getElem_cons hlt
    refine Out_loop G false _ _ af233l0.eq_1 _ _ _ ?_
    simp [h7, h8]
    refine Out_cond _ _ _ _ _ _ _ rfl (fun _ => ?_) (fun h => by simp at h; omega)
    simp [h0, h1, h8, toVs_get, List.getElem?_eq_getElem hlt, hc L[i] (List.getElem_mem hlt)]
    refine Out_cond _ _ _ _ _ _ _ rfl (fun hg => ?_) (fun hg => ?_)
    · rw [hd, idxV, if_pos hg]
      simp
    · rw [hd, idxV, if_neg (by simp [hg])]
      have hw : IntKind.i64.wrap ((i : Int) + 1) = ((i + 1 : Nat) : Int) := by rw [wrap_in (by omega) (by omega)]; omega
      simp [h8, hw]
      exact ihm (i + 1) _ s (by omega) (by omega) (by simp [h0]) (by simp [h1]) (by simp [h7]) (by simp) hc

theorem idxV_neg {α : Type} (g : α → Bool) : ∀ (L : List α) (i : Nat), -1 ≤ idxV g L i ∧ (0 ≤ idxV g L i ↔ L.any g = true)
  | [], i => by simp [idxV]
  | x :: xs, i => by
    unfold idxV
    have := idxV_neg g xs (i + 1)
    split
    · rename_i h
      simp [h]
      try omega
    · rename_i h
      simp [h]
      simpa using this

theorem contains42 (L : List JV) (hL : L.length ≤ 9223372036854775807) (f : FuncId) (cap : List V) (hcap : plainL cap = cap) (g : JV → Bool) (s : St)
    (hc : ∀ x ∈ L, call G f (toV x :: cap) s = some (.bool (g x), s)) : call G 161 [.sl .no (toVs L), .fn (.func f) [] cap] s = some (.bool (L.any g), s) := by
  have h42 : call G 233 [.sl .no (toVs L), .fn (.func f) [] cap] s = some (.int .i64 (idxV g L 0), s) := by
    refine call_out (F := af233) rfl rfl ?_
    simp [af233, af233b, toVs_length]
    refine (idxLoop42 L hL f cap hcap g L.length 0 _ s (by omega) (by omega) (by simp) (by simp) (by simp) (by simp) hc).mono ?_
    rintro e env s' ⟨rfl, ⟨h1, rfl⟩ | ⟨h1, rfl, h2⟩⟩
    · rw [List.drop_zero] at h1
      simp [h1]
    · rw [List.drop_zero] at h2
      simp [h2]
  refine call_out (F := af161) rfl rfl ?_
  simp [af161, af161b, h42, hcap]
  have := idxV_neg g L 0
  by_cases h : L.any g = true
  · have h0 := this.2.2 h
    simp [h, h0]
  · have h0 : ¬ 0 ≤ idxV g L 0 := fun q => h (this.2.1 q)
    have h' : L.any g = false := by simpa using h
    simp [h', h0]

theorem idxLoop43 (L : List (List UInt8 × JV)) (hL : L.length ≤ 9223372036854775807) (f : FuncId) (cap : List V) (hcap : plainL cap = cap) (g : (List UInt8 × JV) → Bool) :
    ∀ (m i : Nat) (env : Env) (s : St), L.length - i = m → i ≤ L.length → env 0 = .sl .no (toPs L) → env 1 = .fn (.func f) [] cap → env 7 = .int .i64 L.length → env 8 = .int .i64 i →
      (∀ x ∈ L, call G f (pv x :: cap) s = some (.bool (g x), s)) →
      Out (evC G (.loop false af234l0) env s) (fun e env' s' => s' = s ∧ ((idxV g (L.drop i) i = -1 ∧ e = .exit 0) ∨ (idxV g (L.drop i) i ≠ -1 ∧ e = .ret ∧ env' 4 = .int .i64 (idxV g (L.drop i) i)))) := by
  intro m
  induction m with
  | zero =>
    intro i env s hm hi h0 h1 h7 h8 hc
    have : i = L.length := by omega
    subst this
    refine Out_loop G false _ _ af234l0.eq_1 _ _ _ ?_
    simp [h7, h8]
    refine Out_cond _ _ _ _ _ _ _ rfl (fun h => by simp at h) (fun _ => ?_)
    simp [idxV]
  | succ m ihm =>
    intro i env s hm hi h0 h1 h7 h8 hc
    have hlt : i < L.length := by omega
    have hd := List.drop_eq_getElem_cons hlt
    refine Out_loop G false _ _ af234l0.eq_1 _ _ _ ?_
    simp [h7, h8]
    refine Out_cond _ _ _ _ _ _ _ rfl (fun _ => ?_) (fun h => by simp at h; omega)
    simp [h0, h1, h8, toPs_get, List.getElem?_eq_getElem hlt, hc L[i] (List.getElem_mem hlt)]
    refine Out_cond _ _ _ _ _ _ _ rfl (fun hg => ?_) (fun hg => ?_)
    · rw [hd, idxV, if_pos hg]
      simp
    · rw [hd, idxV, if_neg (by simp [hg])]
      have hw : IntKind.i64.wrap ((i : Int) + 1) = ((i + 1 : Nat) : Int) := by rw [wrap_in (by omega) (by omega)]; omega
      simp [h8, hw]
      exact ihm (i + 1) _ s (by omega) (by omega) (by simp [h0]) (by simp [h1]) (by simp [h7]) (by simp) hc

theorem contains43 (L : List (List UInt8 × JV)) (hL : L.length ≤ 9223372036854775807) (f : FuncId) (cap : List V) (hcap : plainL cap = cap) (g : (List UInt8 × JV) → Bool) (s : St)
    (hc : ∀ x ∈ L, call G f (pv x :: cap) s = some (.bool (g x), s)) : call G 164 [.sl .no (toPs L), .fn (.func f) [] cap] s = some (.bool (L.any g), s) := by
  have h43 : call G 234 [.sl .no (toPs L), .fn (.func f) [] cap] s = some (.int .i64 (idxV g L 0), s) := by
    refine call_out (F := af234) rfl rfl ?_
    simp [af234, af234b, toPs_length]
    refine (idxLoop43 L hL f cap hcap g L.length 0 _ s (by omega) (by omega) (by simp) (by simp) (by simp) (by simp) hc).mono ?_
    rintro e env s' ⟨rfl, ⟨h1, rfl⟩ | ⟨h1, rfl, h2⟩⟩
    · rw [List.drop_zero] at h1
      simp [h1]
    · rw [List.drop_zero] at h2
      simp [h2]
  refine call_out (F := af164) rfl rfl ?_
  simp [af164, af164b, h43, hcap]
  have := idxV_neg g L 0
  by_cases h : L.any g = true
  · have h0 := this.2.2 h
    simp [h, h0]
  · have h0 : ¬ 0 ≤ idxV g L 0 := fun q => h (this.2.1 q)
    have h' : L.any g = false := by simpa using h
    simp [h', h0]

/-! ### Maps whose keys are texts -/
theorem find_cons (k : V) (e : V × V × Nat) (es : List (V × V × Nat)) : find k (e :: es) = match keyEq k e.1 with
    | some true => some (some (e.2.1, e.2.2))
    | some false => find k es
    | none => none := by rw [find]; rfl

theorem find_app_none {k : V} {e : V × V × Nat} : ∀ {es : List (V × V × Nat)}, find k es = some none → find k (es ++ [e]) = find k [e]
  | [], _ => rfl
  | x :: es, h => by
    rw [List.cons_append, find_cons]
    rw [find_cons] at h
    cases hq : keyEq k x.1 with
    | none => rw [hq] at h; cases h
    | some t =>
      rw [hq] at h
      cases t with
      | true => cases h
      | false => exact find_app_none h

theorem find_app_some {k : V} {e : V × V × Nat} {r : V × Nat} : ∀ {es : List (V × V × Nat)}, find k es = some (some r) → find k (es ++ [e]) = some (some r)
  | [], h => by simp [find] at h
  | x :: es, h => by
    rw [List.cons_append, find_cons]
    rw [find_cons] at h
    cases hq : keyEq k x.1 with
    | none => rw [hq] at h; cases h
    | some t =>
      rw [hq] at h
      cases t with
      | true => exact h
      | false => exact find_app_some h

/-- Entries: the keys that are there have 1. -/
structure Seen (es : List (V × V × Nat)) (ks : List (List UInt8)) : Prop where
  yes : ∀ k, k ∈ ks → ∃ b, find (.str k) es = some (some (.int .i64 1, b))
  no : ∀ k, k ∉ ks → find (.str k) es = some none

theorem Seen.nil : Seen [] [] := ⟨fun _ h => absurd h List.not_mem_nil, fun _ _ => rfl⟩

theorem Seen.push {es : List (V × V × Nat)} {ks : List (List UInt8)} (h : Seen es ks) {k : List UInt8} (hk : k ∉ ks) (c : Nat) : Seen (es ++ [(.str k, .int .i64 1, c)]) (ks ++ [k]) where
  yes k' hk' := by
    by_cases hm : k' ∈ ks
    · obtain ⟨b, hb⟩ := h.yes k' hm
      exact ⟨b, find_app_some hb⟩
    · have : k' = k := by
        rcases List.mem_append.1 hk' with q | q
        · exact absurd q hm
        · simpa using q
      subst this
      refine ⟨c, ?_⟩
      rw [find_app_none (h.no k' hm)]
      simp [find, keyEq]
  no k' hk' := by
    simp only [List.mem_append, List.mem_singleton, not_or] at hk'
    rw [find_app_none (h.no k' hk'.1)]
    simp [find, keyEq, hk'.2]

theorem find_set {k v : V} : ∀ {es : List (V × V × Nat)} {r : V × Nat}, find k es = some (some r) → find k (setKey k v es) = some (some (v, r.2))
  | [], r, h => by simp [find] at h
  | x :: es, r, h => by
    rw [find_cons] at h
    cases hq : keyEq k x.1 with
    | none => rw [hq] at h; cases h
    | some t =>
      rw [hq] at h
      unfold setKey
      cases t with
      | true =>
        cases h
        rw [if_pos hq, find_cons]
        simp [hq]
      | false =>
        rw [if_neg (by rw [hq]; simp), find_cons, hq]
        exact find_set h

/-- Keys that may be. -/
def keysV : List (List UInt8) → List (List UInt8 × JV) → Bool
  | _, [] => true
  | seen, p :: ps => if p.1 ∈ seen ∨ rightV p.1 = false then false else keysV (seen ++ [p.1]) ps

theorem keysLoop (base : List AObj) (bufs : List (Nat × Nat × TypeId)) (L : List (List UInt8 × JV)) (hL : L.length ≤ 9223372036854775807) (hk : ∀ p ∈ L, p.1.length ≤ 9223372036854775807) :
    ∀ (m i : Nat) (env : Env) (es : List (V × V × Nat)) (clock : Nat) (junk : List AObj) (ks : List (List UInt8)), L.length - i = m → i ≤ L.length → env 3 = .map base.length → env 7 = .sl .no (toPs L) → env 8 = .int .i64 L.length → env 9 = .int .i64 i → Seen es ks →
      Out (evC G (.loop false af163l0) env ⟨base ++ .map es clock :: junk, bufs⟩) (fun e env' s' => (∃ rest, s' = ⟨base ++ rest, bufs⟩) ∧ ((keysV ks (L.drop i) = true ∧ e = .exit 0) ∨ (keysV ks (L.drop i) = false ∧ e = .ret ∧ env' 2 = .bool false))) := by
  intro m
  induction m with
  | zero =>
    intro i env es clock junk ks hm hi h3 h7 h8 h9 hse
    have : i = L.length := by omega
    subst this
    refine Out_loop G false _ _ af163l0.eq_1 _ _ _ ?_
    simp [h8, h9]
    refine Out_cond _ _ _ _ _ _ _ rfl (fun h => by simp at h) (fun _ => ?_)
    simp [keysV]
  | succ m ihm =>
    intro i env es clock junk ks hm hi h3 h7 h8 h9 hse
    have hlt : i < L.length := by omega
    have hd := List.drop_eq_getElem_cons hlt
    refine Out_loop G false _ _ af163l0.eq_1 _ _ _ ?_
    simp [h8, h9]
    refine Out_cond _ _ _ _ _ _ _ rfl (fun _ => ?_) (fun h => by simp at h; omega)
    have hkey := hk L[i] (List.getElem_mem hlt)
    generalize hp : L[i] = p at *
    obtain ⟨key, ⟨kk, nn, ss, ll, ff⟩⟩ := p
    simp only at hkey
    by_cases hin : key ∈ ks
    · obtain ⟨bb, hb⟩ := hse.yes key hin
      have hset := find_set (v := .int .i64 2) hb
      have hw : IntKind.i64.wrap 2 = 2 := by decide
      simp [h3, h7, h9, toPs_get, List.getElem?_eq_getElem hlt, hp, evStore, putL, V.one, vc, evLookup, evLook, evMupd, keyOk, hb, hset, hw]
      refine Out_cond _ _ _ _ _ _ _ rfl (fun _ => ?_) (fun h => by cases h)
      rw [hd, keysV, if_pos (.inl hin)]
      simp
    · have hb := hse.no key hin
      have hw : IntKind.i64.wrap 1 = 1 := by decide
      have hpush := find_app_none (e := (.str key, .int .i64 1, clock)) hb
      simp [find, keyEq] at hpush
      simp [h3, h7, h9, toPs_get, List.getElem?_eq_getElem hlt, hp, evStore, putL, V.one, vc, evLookup, evLook, evMupd, keyOk, hb, hpush, hw, textRight_spec' key hkey]
      have hw2 : IntKind.i64.wrap ((i : Int) + 1) = ((i + 1 : Nat) : Int) := by rw [wrap_in (by omega) (by omega)]; omega
      refine Out_cond _ _ _ _ _ _ _ rfl (fun h => ?_) (fun h => ?_)
      · have hr : rightV key = false := by simpa using h
        rw [hd, keysV, if_pos (.inr hr)]
        simp
      · have hr : rightV key = true := by simpa using h
        have hn : ¬ (key ∈ ks ∨ rightV key = false) := by simp [hin, hr]
        rw [hd, keysV, if_neg hn]
        simp [h9, hw2]
        exact ihm (i + 1) _ _ _ _ (ks ++ [key]) (by omega) (by omega) (by simp [h3]) (by simp [h7]) (by simp [h8]) (by simp) (hse.push hin clock)

theorem keys_spec (L : List (List UInt8 × JV)) (hL : L.length ≤ 9223372036854775807) (hk : ∀ p ∈ L, p.1.length ≤ 9223372036854775807) (s : St) : call G 163 [.sl .no (toPs L)] s = some (.bool (keysV [] L), s) := by
  obtain ⟨obs, bufs⟩ := s
  refine call_out (F := af163) rfl rfl ?_
  simp [af163, af163b, toPs_length]
  refine (keysLoop obs bufs L hL hk L.length 0 _ [] 0 [] [] (by omega) (by omega) (by simp) (by simp) (by simp) (by simp) Seen.nil).mono ?_
  rintro e env s' ⟨⟨rest, rfl⟩, ⟨h1, rfl⟩ | ⟨h1, rfl, h2⟩⟩
  · rw [List.drop_zero] at h1
    simp [h1]
  · rw [List.drop_zero] at h1
    simp [h1, h2]

/-! ### tree.Right -/
/-! A value of so many levels is right. -/
mutual
def treeV : JV → Int → Bool
  | .mk k n s l f, d =>
    if d < 1 ∨ unusedV (.mk k n s l f) = false then false
    else if k = 0 then true
    else if k = 1 then decide (n = 0) || decide (n = 1)
    else if k = 2 then decide (-9007199254740991 ≤ n) && decide (n ≤ 9007199254740991)
    else if k = 3 then rightV s
    else if k = 4 then treeVs l (d - 1)
    else if k = 5 then keysV [] f && treePs f (d - 1)
    else false
def treeVs : List JV → Int → Bool
  | [], _ => true
  | v :: vs, d => treeV v d && treeVs vs d
def treePs : List (List UInt8 × JV) → Int → Bool
  | [], _ => true
  | p :: ps, d => treeV p.2 d && treePs ps d
end
theorem treeVs_any (l : List JV) (d : Int) : l.any (fun x => !treeV x d) = !treeVs l d := by
  induction l with
  | nil => rfl
  | cons x l ih => simp [treeVs, ih]
theorem treePs_any (l : List (List UInt8 × JV)) (d : Int) : l.any (fun x => !treeV x.2 d) = !treePs l d := by
  induction l with
  | nil => rfl
  | cons x l ih => simp [treePs, ih]

/-- The closure's cell. -/
def Clo (c : Nat) (s : St) : Prop := s.obs[c]? = some (.cells 60 [.fn (.func 159) [] [.ptr c 0]])

theorem Clo.app {c : Nat} {s : St} (h : Clo c s) (l : List AObj) : Clo c ⟨s.obs ++ l, s.bufs⟩ := by
  unfold Clo at *
  rw [List.getElem?_append_left (lt_of_get h)]
  exact h

theorem f26_spec (x : JV) (c e : Nat) (d : Int) (hd : -1000 ≤ d ∧ d ≤ 1000) (s : St) (hcl : Clo c s) (he : s.obs[e]? = some (.cells 3 [.int .i64 d]))
    (ih : ∀ s', Clo c s' → call G 159 [toV x, .int .i64 (d - 1), .ptr c 0] s' = some (.bool (treeV x (d - 1)), s')) :
    call G 162 [toV x, .ptr c 0, .ptr e 0] s = some (.bool (!treeV x (d - 1)), s) := by
  have h1 := hcl.app [.cells 46 (vc x)]
  have h2 : (s.obs ++ [AObj.cells 46 (vc x)])[e]? = some (.cells 3 [.int .i64 d]) := by
    rw [List.getElem?_append_left (lt_of_get he)]; exact he
  have h3 : (s.obs ++ [AObj.cells 46 (vc x)])[c]? = some (.cells 60 [.fn (.func 159) [] [.ptr c 0]]) := h1
  have hw : IntKind.i64.wrap (d - 1) = d - 1 := wrap_in (by omega) (by omega)
  refine call_out (F := af162) rfl rfl ?_
  simp [af162, af162b, h2, h3, hw, ih _ h1]

theorem f29_spec (x : List UInt8 × JV) (c e : Nat) (d : Int) (hd : -1000 ≤ d ∧ d ≤ 1000) (s : St) (hcl : Clo c s) (he : s.obs[e]? = some (.cells 3 [.int .i64 d]))
    (ih : ∀ s', Clo c s' → call G 159 [toV x.2, .int .i64 (d - 1), .ptr c 0] s' = some (.bool (treeV x.2 (d - 1)), s')) :
    call G 165 [pv x, .ptr c 0, .ptr e 0] s = some (.bool (!treeV x.2 (d - 1)), s) := by
  have h1 := hcl.app [.cells 63 (.str x.1 :: vc x.2)]
  have h2 : (s.obs ++ [AObj.cells 63 (.str x.1 :: vc x.2)])[e]? = some (.cells 3 [.int .i64 d]) := by
    rw [List.getElem?_append_left (lt_of_get he)]; exact he
  have h3 : (s.obs ++ [AObj.cells 63 (.str x.1 :: vc x.2)])[c]? = some (.cells 60 [.fn (.func 159) [] [.ptr c 0]]) := h1
  have hw : IntKind.i64.wrap (d - 1) = d - 1 := wrap_in (by omega) (by omega)
  refine call_out (F := af165) rfl rfl ?_
  simp [af165, af165b, h2, h3, hw, ih _ h1]

theorem tree_spec : ∀ (v : JV), v.ok → ∀ (d : Int) (c : Nat) (s : St), -100 ≤ d → d ≤ 1000 → Clo c s → call G 159 [toV v, .int .i64 d, .ptr c 0] s = some (.bool (treeV v d), s)
  | .mk k nn b l f, hok, d, c, s, hd0, hd1, hcl => by
    obtain ⟨_, _, hb, hl, hf, hokl, hokf⟩ := hok
    have ihl : ∀ x ∈ l, ∀ (s : St), 1 ≤ d → Clo c s → call G 159 [toV x, .int .i64 (d - 1), .ptr c 0] s = some (.bool (treeV x (d - 1)), s) := fun x hx s h1 hc => tree_spec x (okVs_mem hokl x hx) (d - 1) c s (by omega) (by omega) hc
    have ihf : ∀ x ∈ f, ∀ (s : St), 1 ≤ d → Clo c s → call G 159 [toV x.2, .int .i64 (d - 1), .ptr c 0] s = some (.bool (treeV x.2 (d - 1)), s) := fun x hx s h1 hc => tree_spec x.2 (okPs_mem hokf x hx).2 (d - 1) c s (by omega) (by omega) hc
    have hun := unused_spec (.mk k nn b l f)
    simp only [toV, vc] at hun
    have hobj := hcl.app [.cells 46 (vc (.mk k nn b l f)), .cells 3 [.int .i64 d]]
    simp only [vc] at hobj
    refine call_out (F := af159) rfl rfl ?_
    simp [af159, af159b, vc, hun]
    refine Out_cond _ _ _ _ _ _ _ rfl (fun h => ?_) (fun h => ?_)
    · have h' : d < 1 ∨ unusedV (.mk k nn b l f) = false := by
        simp at h
        rcases h with h | h
        · exact .inl (by omega)
        · exact .inr h
      simp [treeV, h']
    · have h' : ¬ (d < 1 ∨ unusedV (.mk k nn b l f) = false) := by
        simp at h
        simp [h.2]
        omega
      have hd : 1 ≤ d := by omega
      have hcl2 : ({ obs := s.obs ++ [.cells 46 [.int .i64 k, .int .i64 nn, .str b, .sl .no (toVs l), .sl .no (toPs f)], .cells 3 [.int .i64 d]], bufs := s.bufs } : St).obs[s.obs.length + 1]? = some (.cells 3 [.int .i64 d]) := by simp
      simp
      refine Out_cond _ _ _ _ _ _ _ rfl (fun h0 => ?_) (fun h0 => ?_)
      · simp at h0
        have ht : treeV (.mk k nn b l f) d = true := by rw [treeV, if_neg h', if_pos h0]
        simp [ht]
      · simp at h0
        simp
        refine Out_cond _ _ _ _ _ _ _ rfl (fun h1 => ?_) (fun h1 => ?_)
        · simp at h1
          have ht : treeV (.mk k nn b l f) d = (decide (nn = 0) || decide (nn = 1)) := by rw [treeV, if_neg h', if_neg h0, if_pos h1]
          simp [ht]
        · simp at h1
          simp
          refine Out_cond _ _ _ _ _ _ _ rfl (fun h2 => ?_) (fun h2 => ?_)
          · simp at h2
            have ht : treeV (.mk k nn b l f) d = (decide (-9007199254740991 ≤ nn) && decide (nn ≤ 9007199254740991)) := by rw [treeV, if_neg h', if_neg h0, if_neg h1, if_pos h2]
            simp [ht]
          · simp at h2
            simp
            refine Out_cond _ _ _ _ _ _ _ rfl (fun h3 => ?_) (fun h3 => ?_)
            · simp at h3
              have ht : treeV (.mk k nn b l f) d = rightV b := by rw [treeV, if_neg h', if_neg h0, if_neg h1, if_neg h2, if_pos h3]
              simp [ht, textRight_spec' b hb]
            · simp at h3
              simp
              refine Out_cond _ _ _ _ _ _ _ rfl (fun h4 => ?_) (fun h4 => ?_)
              · simp at h4
                have ht : treeV (.mk k nn b l f) d = treeVs l (d - 1) := by rw [treeV, if_neg h', if_neg h0, if_neg h1, if_neg h2, if_neg h3, if_pos h4]
                have hcon := contains42 l hl 162 [.ptr c 0, .ptr (s.obs.length + 1) 0] rfl (fun x => !treeV x (d - 1)) _
                  (fun x hx => f26_spec x c (s.obs.length + 1) d ⟨by omega, by omega⟩ _ hobj hcl2 (fun s' hc => ihl x hx s' hd hc))
                rw [treeVs_any] at hcon
                simp [ht, hcon]
              · simp at h4
                simp
                refine Out_cond _ _ _ _ _ _ _ rfl (fun h5 => ?_) (fun h5 => ?_)
                · simp at h5
                  have ht : treeV (.mk k nn b l f) d = (keysV [] f && treePs f (d - 1)) := by rw [treeV, if_neg h', if_neg h0, if_neg h1, if_neg h2, if_neg h3, if_neg h4, if_pos h5]
                  have hcon := contains43 f hf 165 [.ptr c 0, .ptr (s.obs.length + 1) 0] rfl (fun x => !treeV x.2 (d - 1)) _
                    (fun x hx => f29_spec x c (s.obs.length + 1) d ⟨by omega, by omega⟩ _ hobj hcl2 (fun s' hc => ihf x hx s' hd hc))
                  rw [treePs_any] at hcon
                  have hkey := keys_spec f hf (fun p hp => (okPs_mem hokf p hp).1)
                  simp [ht, hcon, hkey]
                · simp at h5
                  have ht : treeV (.mk k nn b l f) d = false := by rw [treeV, if_neg h', if_neg h0, if_neg h1, if_neg h2, if_neg h3, if_neg h4, if_neg h5]
                  simp [ht]
termination_by v => SizeOf.sizeOf v
decreasing_by
  · have := List.sizeOf_lt_of_mem hx
    simp; omega
  · have := List.sizeOf_lt_of_mem hx
    obtain ⟨a, b⟩ := x
    simp at this ⊢; omega

theorem treeRight_spec (v : JV) (hok : v.ok) (s : St) : call G 92 [toV v] s = some (.bool (treeV v 12), s) := by
  have hcl : Clo (s.obs.length + 1) ⟨s.obs ++ [.cells 46 (vc v), .cells 60 [.fn (.func 159) [] [.ptr (s.obs.length + 1) 0]]], s.bufs⟩ := by
    unfold Clo; simp
  have h := tree_spec v hok 12 _ _ (by omega) (by omega) hcl
  refine call_out (F := af92) rfl rfl ?_
  simp [af92, af92b, evStore, putL, V.one, h]

end Go.Proofs.YtboejpobmpfifaaGreatDoor.Eng

namespace Go.Proofs.YtboejpobmpfifaaGreatDoor.Eng
open Go
set_option linter.unusedSimpArgs false
set_option linter.unusedVariables false

attribute [local simp] evC_reg evC_regD evR_cons evR_nil runR_some regK_some evC_ret evC_skip evC_exit Out_seq Out_blk Out_some seqQ_norm seqQ_ret seqQ_exit blkQ_norm blkQ_ret blkQ_exit loopQ_norm loopQ_ret loopQ_exit
attribute [local simp] stepR evOp put upd_apply X.ev initEnv cells_agg cells_int cells_str cells_bool cells_sl cells_ptr cells_pnil cells_fn cells_map vc_length vc_take vc_plain vc_und toVs_plain toPs_plain toVs_und toPs_und takeN evBin isSh intBin strBin callK resOf packR fin V.plain plainL V.und undL scK kill dstsO dstsL dstsR ite_some ite_pair ite_vbool evUn evLoad evLen V.real finLoop_false quietK_false kill_none
mutual
def refV : JV → Int → Bool
  | .mk k n s l f, d =>
    if d < 1 ∨ k < 0 ∨ 5 < k then false
    else if (k ≠ 1 ∧ k ≠ 2 ∧ n ≠ 0) ∨ (k ≠ 3 ∧ s ≠ []) ∨ (k ≠ 4 ∧ l ≠ []) ∨ (k ≠ 5 ∧ f ≠ []) then false
    else if (k = 1 ∧ n ≠ 0 ∧ n ≠ 1) ∨ 9007199254740991 < n ∨ n < -9007199254740991 ∨ rightV s = false then false
    else refVs l (d - 1) && refPs [] f (d - 1)
def refVs : List JV → Int → Bool
  | [], _ => true
  | v :: vs, d => refV v d && refVs vs d
def refPs : List (List UInt8) → List (List UInt8 × JV) → Int → Bool
  | _, [], _ => true
  | seen, p :: ps, d => rightV p.1 && refV p.2 d && !decide (p.1 ∈ seen) && refPs (seen ++ [p.1]) ps d
end

theorem refLoop0 (k nn : Int) (b : List UInt8) (L : List JV) (f : List (List UInt8 × JV)) (id : Nat) (hL : L.length ≤ 9223372036854775807) (d : Int) (hd : -100 ≤ d ∧ d ≤ 1000)
    (ih : ∀ x ∈ L, ∀ (s : St), call G 108 [toV x, .int .i64 (d - 1)] s = some (.bool (refV x (d - 1)), s)) :
    ∀ (m i : Nat) (env : Env) (s : St), L.length - i = m → i ≤ L.length → env 2 = .ptr id 0 → env 1 = .int .i64 d → env 5 = .int .i64 i →
      s.obs[id]? = some (.cells 46 [.int .i64 k, .int .i64 nn, .str b, .sl .no (toVs L), .sl .no (toPs f)]) →
      Out (evC G (.loop false af108l0) env s) (fun e env' s' => s' = s ∧ ((refVs (L.drop i) (d - 1) = true ∧ e = .exit 0 ∧ env' 1 = .int .i64 d ∧ env' 2 = .ptr id 0) ∨ (refVs (L.drop i) (d - 1) = false ∧ e = .ret ∧ env' 4 = .bool false))) := by
  intro m
  induction m with
  | zero =>
    intro i env s hm hi h2 h1 h5 hs
    have : i = L.length := by omega
    subst this
    refine Out_loop G false _ _ af108l0.eq_1 _ _ _ ?_
    simp [h2, h1, h5, hs, toVs_length]
    refine Out_cond _ _ _ _ _ _ _ rfl (fun h => by simp at h) (fun _ => ?_)
    simp [h1, h2, refVs]
  | succ m ihm =>
    intro i env s hm hi h2 h1 h5 hs
    have hlt : i < L.length := by omega
    have hdr := List.drop_eq_getElem_cons hlt
    have hw : IntKind.i64.wrap (d - 1) = d - 1 := wrap_in (by omega) (by omega)
    have hwi : IntKind.i64.wrap ((i : Int) + 1) = ((i + 1 : Nat) : Int) := by rw [wrap_in (by omega) (by omega)]; omega
    refine Out_loop G false _ _ af108l0.eq_1 _ _ _ ?_
    simp [h2, h1, h5, hs, toVs_length]
    refine Out_cond _ _ _ _ _ _ _ rfl (fun _ => ?_) (fun h => by simp at h; omega)
    simp [h2, h1, h5, hs, toVs_get, List.getElem?_eq_getElem hlt, hw, ih L[i] (List.getElem_mem hlt) s]
    refine Out_cond _ _ _ _ _ _ _ rfl (fun hr => ?_) (fun hr => ?_)
    · have hr' : refV L[i] (d - 1) = false := by simpa using hr
      rw [hdr, refVs, hr']
      simp
    · have hr' : refV L[i] (d - 1) = true := by simpa using hr
      rw [hdr, refVs, hr']
      simp [h5, hwi]
      exact ihm (i + 1) _ s (by omega) (by omega) (by simp [h2]) (by simp [h1]) (by simp) hs

/-- Does a key stand ahead? -/
theorem refLoop1 (k nn : Int) (b : List UInt8) (l : List JV) (L : List (List UInt8 × JV)) (id : Nat) (hL : L.length ≤ 9223372036854775807) (i : Nat) (hi : i < L.length) (d : Int) :
    ∀ (m j : Nat) (env : Env) (s : St), i - j = m → j ≤ i → env 2 = .ptr id 0 → env 1 = .int .i64 d → env 6 = .int .i64 i → env 7 = .int .i64 j →
      s.obs[id]? = some (.cells 46 [.int .i64 k, .int .i64 nn, .str b, .sl .no (toVs l), .sl .no (toPs L)]) →
      Out (evC G (.loop false af108l1) env s) (fun e env' s' => s' = s ∧ (((∀ q, j ≤ q → q < i → (L.map (·.1))[q]? ≠ some L[i].1) ∧ e = .exit 4 ∧ env' 1 = .int .i64 d ∧ env' 2 = .ptr id 0 ∧ env' 6 = .int .i64 i) ∨
        ((∃ q, j ≤ q ∧ q < i ∧ (L.map (·.1))[q]? = some L[i].1) ∧ e = .ret ∧ env' 4 = .bool false))) := by
  intro m
  induction m with
  | zero =>
    intro j env s hm hj h2 h1 h6 h7 hs
    have : j = i := by omega
    subst this
    refine Out_loop G false _ _ af108l1.eq_1 _ _ _ ?_
    simp [h6, h7]
    refine Out_cond _ _ _ _ _ _ _ rfl (fun h => by simp at h) (fun _ => ?_)
    simp [h1, h2, h6]
    intro q a b
    omega
  | succ m ihm =>
    intro j env s hm hj h2 h1 h6 h7 hs
    have hlt : j < i := by omega
    have hjL : j < L.length := by omega
    have hwi : IntKind.i64.wrap ((j : Int) + 1) = ((j + 1 : Nat) : Int) := by rw [wrap_in (by omega) (by omega)]; omega
    refine Out_loop G false _ _ af108l1.eq_1 _ _ _ ?_
    simp [h6, h7]
    refine Out_cond _ _ _ _ _ _ _ rfl (fun _ => ?_) (fun h => by simp at h; omega)
    simp [h2, h1, h6, h7, hs, toPs_get, List.getElem?_eq_getElem hjL, List.getElem?_eq_getElem hi]
    refine Out_cond _ _ _ _ _ _ _ rfl (fun hr => ?_) (fun hr => ?_)
    · have hr' : L[j].1 = L[i].1 := by simpa using hr
      simp
      exact ⟨j, by omega, hlt, L[j].2, by rw [List.getElem?_eq_getElem hjL, ← hr']⟩
    · have hr' : ¬ L[j].1 = L[i].1 := by simpa using hr
      simp [h7, hwi]
      refine (ihm (j + 1) _ s (by omega) (by omega) (by simp [h2]) (by simp [h1]) (by simp [h6]) (by simp) hs).mono ?_
      rintro e env' s' ⟨rfl, ⟨g1, g2⟩ | ⟨⟨q, g1, g2, g3⟩, g4⟩⟩
      · refine ⟨rfl, .inl ⟨?_, g2⟩⟩
        intro q hq1 hq2
        by_cases e : q = j
        · intro x hx
          rw [e, List.getElem?_eq_getElem hjL] at hx
          have := Option.some.inj hx
          exact hr' (by rw [this])
        · intro x hx
          exact g1 q (by omega) hq2 (by simp [hx])
      · exact ⟨rfl, .inr ⟨⟨q, by omega, g2, by simpa using g3⟩, g4⟩⟩

/-- The keys ahead. -/
def seenOf (L : List (List UInt8 × JV)) (i : Nat) : List (List UInt8) := (L.take i).map (·.1)

theorem refLoop2 (k nn : Int) (b : List UInt8) (l : List JV) (L : List (List UInt8 × JV)) (id : Nat) (hL : L.length ≤ 9223372036854775807) (hk : ∀ p ∈ L, p.1.length ≤ 9223372036854775807) (d : Int) (hd : -100 ≤ d ∧ d ≤ 1000)
    (ih : ∀ x ∈ L, ∀ (s : St), call G 108 [toV x.2, .int .i64 (d - 1)] s = some (.bool (refV x.2 (d - 1)), s)) :
    ∀ (m i : Nat) (env : Env) (s : St), L.length - i = m → i ≤ L.length → env 2 = .ptr id 0 → env 1 = .int .i64 d → env 6 = .int .i64 i →
      s.obs[id]? = some (.cells 46 [.int .i64 k, .int .i64 nn, .str b, .sl .no (toVs l), .sl .no (toPs L)]) →
      Out (evC G (.loop false af108l2) env s) (fun e env' s' => s' = s ∧ ((refPs (seenOf L i) (L.drop i) (d - 1) = true ∧ e = .exit 2) ∨ (refPs (seenOf L i) (L.drop i) (d - 1) = false ∧ e = .ret ∧ env' 4 = .bool false))) := by
  intro m
  induction m with
  | zero =>
    intro i env s hm hi h2 h1 h6 hs
    have : i = L.length := by omega
    subst this
    refine Out_loop G false _ _ af108l2.eq_1 _ _ _ ?_
    simp [h2, h1, h6, hs, toPs_length]
    refine Out_cond _ _ _ _ _ _ _ rfl (fun h => by simp at h) (fun _ => ?_)
    simp [refPs]
  | succ m ihm =>
    intro i env s hm hi h2 h1 h6 hs
    have hlt : i < L.length := by omega
    have hdr := List.drop_eq_getElem_cons hlt
    have hw : IntKind.i64.wrap (d - 1) = d - 1 := wrap_in (by omega) (by omega)
    have hwi : IntKind.i64.wrap ((i : Int) + 1) = ((i + 1 : Nat) : Int) := by rw [wrap_in (by omega) (by omega)]; omega
    have hkey := hk L[i] (List.getElem_mem hlt)
    have e1 : L.length - (i + 1) = m := by omega
    have e2 : i + 1 ≤ L.length := by omega
    refine Out_loop G false _ _ af108l2.eq_1 _ _ _ ?_
    simp [h2, h1, h6, hs, toPs_length]
    refine Out_cond _ _ _ _ _ _ _ rfl (fun _ => ?_) (fun h => by simp at h; omega)
    simp [h2, h1, h6, hs, toPs_get, List.getElem?_eq_getElem hlt, hw, ih L[i] (List.getElem_mem hlt) s, refRight_spec L[i].1 hkey]
    refine Out_cond _ _ _ _ _ _ _ rfl (fun hr => ?_) (fun hr => ?_)
    · have hr' : (rightV L[i].1 && refV L[i].2 (d - 1)) = false := by
        simp at hr
        rcases hr with h | h <;> simp [h]
      rw [hdr, refPs, hr']
      simp
    · have hr' : (rightV L[i].1 && refV L[i].2 (d - 1)) = true := by
        simp at hr
        simp [hr]
      simp
      refine (refLoop1 k nn b l L id hL i hlt d i 0 _ s (by omega) (by omega) (by simp [h2]) (by simp [h1]) (by simp [h6]) (by simp) hs).mono ?_
      have hmem : L[i].1 ∈ seenOf L i ↔ ∃ q, 0 ≤ q ∧ q < i ∧ (L.map (·.1))[q]? = some L[i].1 := by
        unfold seenOf
        rw [List.mem_iff_getElem?]
        constructor
        · rintro ⟨q, hq⟩
          rw [List.map_take, List.getElem?_take] at hq
          split at hq
          · rename_i hqi
            exact ⟨q, Nat.zero_le _, hqi, hq⟩
          · cases hq
        · rintro ⟨q, _, hqi, hq⟩
          exact ⟨q, by rw [List.map_take, List.getElem?_take, if_pos hqi]; exact hq⟩
      rintro e env' s' ⟨rfl, ⟨g1, rfl, g3, g4, g5⟩ | ⟨g1, rfl, g3⟩⟩
      · have hn : L[i].1 ∉ seenOf L i := fun h => by
          obtain ⟨q, q1, q2, q3⟩ := hmem.1 h
          exact g1 q q1 q2 q3
        have hstep : refPs (seenOf L i) (L.drop i) (d - 1) = refPs (seenOf L (i + 1)) (L.drop (i + 1)) (d - 1) := by
          rw [hdr, refPs, hr']
          have : seenOf L (i + 1) = seenOf L i ++ [L[i].1] := by
            unfold seenOf
            rw [List.take_add_one, List.getElem?_eq_getElem hlt, List.map_append]
            rfl
          rw [this]
          simp only [hn, decide_false, Bool.not_false, Bool.and_true, Bool.true_and]
        rw [hstep]
        simp [g5, hwi]
        exact ihm (i + 1) _ s' e1 e2 (by simp [g4]) (by simp [g3]) (by simp) hs
      · have hn : L[i].1 ∈ seenOf L i := hmem.2 g1
        have hf : refPs (seenOf L i) (L.drop i) (d - 1) = false := by
          rw [hdr, refPs]
          simp only [hn, decide_true, Bool.not_true, Bool.and_false, Bool.false_and]
        rw [hf]
        simp [g3]

theorem ref_spec : ∀ (v : JV), v.ok → ∀ (d : Int) (s : St), -100 ≤ d → d ≤ 1000 → call G 108 [toV v, .int .i64 d] s = some (.bool (refV v d), s)
  | .mk k nn b l f, hok, d, s, hd0, hd1 => by
    obtain ⟨_, _, hb, hl, hf, hokl, hokf⟩ := hok
    have ihl : ∀ x ∈ l, ∀ (s : St), 1 ≤ d → call G 108 [toV x, .int .i64 (d - 1)] s = some (.bool (refV x (d - 1)), s) := fun x hx s h1 => ref_spec x (okVs_mem hokl x hx) (d - 1) s (by omega) (by omega)
    have ihf : ∀ x ∈ f, ∀ (s : St), 1 ≤ d → call G 108 [toV x.2, .int .i64 (d - 1)] s = some (.bool (refV x.2 (d - 1)), s) := fun x hx s h1 => ref_spec x.2 (okPs_mem hokf x hx).2 (d - 1) s (by omega) (by omega)
    have hll : (0 < (l.length : Int)) ↔ l ≠ [] := by cases l <;> simp
    have hfl : (0 < (f.length : Int)) ↔ f ≠ [] := by cases f <;> simp
    refine call_out (F := af108) rfl rfl ?_
    simp [af108, af108b, vc]
    refine Out_cond _ _ _ _ _ _ _ rfl (fun h => ?_) (fun h => ?_)
    · have h' : d < 1 ∨ k < 0 ∨ 5 < k := by
        simp at h
        omega
      have ht : refV (.mk k nn b l f) d = false := by rw [refV, if_pos h']
      simp [ht]
    · have h' : ¬ (d < 1 ∨ k < 0 ∨ 5 < k) := by
        simp at h
        omega
      have hd : 1 ≤ d := by omega
      simp [toVs_length, toPs_length]
      refine Out_cond _ _ _ _ _ _ _ rfl (fun h2 => ?_) (fun h2 => ?_)
      · have h2' : (k ≠ 1 ∧ k ≠ 2 ∧ nn ≠ 0) ∨ (k ≠ 3 ∧ b ≠ []) ∨ (k ≠ 4 ∧ l ≠ []) ∨ (k ≠ 5 ∧ f ≠ []) := by
          have := List.length_pos_iff (l := f)
          simp at h2
          grind
        have ht : refV (.mk k nn b l f) d = false := by rw [refV, if_neg h', if_pos h2']
        simp [ht]
      · have h2' : ¬ ((k ≠ 1 ∧ k ≠ 2 ∧ nn ≠ 0) ∨ (k ≠ 3 ∧ b ≠ []) ∨ (k ≠ 4 ∧ l ≠ []) ∨ (k ≠ 5 ∧ f ≠ [])) := by
          have := List.length_pos_iff (l := f)
          simp at h2
          grind
        simp [refRight_spec b hb]
        refine Out_cond _ _ _ _ _ _ _ rfl (fun h3 => ?_) (fun h3 => ?_)
        · have h3' : (k = 1 ∧ nn ≠ 0 ∧ nn ≠ 1) ∨ 9007199254740991 < nn ∨ nn < -9007199254740991 ∨ rightV b = false := by
            simp at h3
            grind
          have ht : refV (.mk k nn b l f) d = false := by rw [refV, if_neg h', if_neg h2', if_pos h3']
          simp [ht]
        · have h3' : ¬ ((k = 1 ∧ nn ≠ 0 ∧ nn ≠ 1) ∨ 9007199254740991 < nn ∨ nn < -9007199254740991 ∨ rightV b = false) := by
            simp at h3
            grind
          have ht : refV (.mk k nn b l f) d = (refVs l (d - 1) && refPs [] f (d - 1)) := by rw [refV, if_neg h', if_neg h2', if_neg h3']
          simp
          refine (refLoop0 k nn b l f s.obs.length hl d ⟨by omega, by omega⟩ (fun x hx s => ihl x hx s hd) l.length 0 _ _ (by omega) (by omega) (by simp) (by simp) (by simp) (by simp)).mono ?_
          rintro e env s' ⟨rfl, ⟨g1, rfl, g3, g4⟩ | ⟨g1, rfl, g3⟩⟩
          · rw [List.drop_zero] at g1
            simp
            refine (refLoop2 k nn b l f s.obs.length hf (fun p hp => (okPs_mem hokf p hp).1) d ⟨by omega, by omega⟩ (fun x hx s => ihf x hx s hd) f.length 0 _ _ (by omega) (by omega) (by simp [g4]) (by simp [g3]) (by simp) (by simp)).mono ?_
            have hs0 : seenOf f 0 = [] := by simp [seenOf]
            rintro e env s' ⟨rfl, ⟨q1, rfl⟩ | ⟨q1, rfl, q3⟩⟩
            · rw [List.drop_zero, hs0] at q1
              simp [ht, g1, q1]
            · rw [List.drop_zero, hs0] at q1
              simp [ht, g1, q1, q3]
          · rw [List.drop_zero] at g1
            simp [ht, g1, g3]
termination_by v => SizeOf.sizeOf v
decreasing_by
  · have := List.sizeOf_lt_of_mem hx
    simp; omega
  · have := List.sizeOf_lt_of_mem hx
    obtain ⟨a, b⟩ := x
    simp at this ⊢; omega

theorem rightV_nil : rightV [] = true := by simp [rightV, badV]

mutual
theorem ref_tree : ∀ (v : JV) (d : Int), refV v d = treeV v d
  | .mk k n s l f, d => by
    have hl := refVs_tree l (d - 1)
    have hf := refPs_tree f (d - 1) []
    have hu : unusedV (.mk k n s l f) = true ↔ ((k = 1 ∨ k = 2 ∨ n = 0) ∧ (k = 3 ∨ s = [])) ∧ (k = 4 ∨ l = []) ∧ (k = 5 ∨ f = []) := by
      simp [unusedV, or_assoc, and_assoc]
    rw [refV, treeV, hl, hf]
    by_cases hd : d < 1
    · simp [hd]
    by_cases hun : unusedV (.mk k n s l f) = true
    · have h2 : ¬ (d < 1 ∨ unusedV (.mk k n s l f) = false) := by simp [hd, hun]
      rw [if_neg h2]
      have hc := hu.1 hun
      have h3 : ¬ ((k ≠ 1 ∧ k ≠ 2 ∧ n ≠ 0) ∨ (k ≠ 3 ∧ s ≠ []) ∨ (k ≠ 4 ∧ l ≠ []) ∨ (k ≠ 5 ∧ f ≠ [])) := by grind
      by_cases hk : k < 0 ∨ 5 < k
      · have e : d < 1 ∨ k < 0 ∨ 5 < k := .inr hk
        rw [if_pos e, if_neg (by omega), if_neg (by omega), if_neg (by omega), if_neg (by omega), if_neg (by omega), if_neg (by omega)]
      · rw [if_neg (by omega), if_neg h3]
        have ens : k ≠ 3 → s = [] := by grind
        have enl : k ≠ 4 → l = [] := by grind
        have enf : k ≠ 5 → f = [] := by grind
        have enn : k ≠ 1 → k ≠ 2 → n = 0 := by grind
        rcases (show k = 0 ∨ k = 1 ∨ k = 2 ∨ k = 3 ∨ k = 4 ∨ k = 5 by omega) with h | h | h | h | h | h
        · subst h
          simp [ens, enl, enf, enn, rightV_nil, treeVs, treePs, keysV]
        · subst h
          simp [ens, enl, enf, rightV_nil, treeVs, treePs, keysV]
          grind
        · subst h
          simp [ens, enl, enf, rightV_nil, treeVs, treePs, keysV]
          grind
        · subst h
          simp [enl, enf, enn, treeVs, treePs, keysV]
        · subst h
          simp [ens, enf, enn, rightV_nil, treePs, keysV]
        · subst h
          simp [ens, enl, enn, rightV_nil, treeVs]
    · have h2 : d < 1 ∨ unusedV (.mk k n s l f) = false := .inr (by simpa using hun)
      rw [if_pos h2]
      have h3 : (k ≠ 1 ∧ k ≠ 2 ∧ n ≠ 0) ∨ (k ≠ 3 ∧ s ≠ []) ∨ (k ≠ 4 ∧ l ≠ []) ∨ (k ≠ 5 ∧ f ≠ []) := by grind
      rw [if_pos h3]
      simp
theorem refVs_tree : ∀ (l : List JV) (d : Int), refVs l d = treeVs l d
  | [], d => rfl
  | v :: vs, d => by rw [refVs, treeVs, ref_tree v d, refVs_tree vs d]
theorem refPs_tree : ∀ (l : List (List UInt8 × JV)) (d : Int) (seen : List (List UInt8)), refPs seen l d = (keysV seen l && treePs l d)
  | [], d, seen => by simp [refPs, keysV, treePs]
  | p :: ps, d, seen => by
    rw [refPs, keysV, treePs, ref_tree p.2 d, refPs_tree ps d (seen ++ [p.1])]
    by_cases h1 : p.1 ∈ seen
    · simp [h1]
    · by_cases h2 : rightV p.1 = true
      · simp [h1, h2]
        cases treeV p.2 d <;> cases keysV (seen ++ [p.1]) ps <;> cases treePs ps d <;> rfl
      · simp [h1, h2]
end

end Go.Proofs.YtboejpobmpfifaaGreatDoor.Eng
