/-
  Values of JSON, and what the evaluator makes of small functions over them: few. No condition.
-/
import Derived.Test.YtjdppboomglenaaDoorJBase
import Derived.Test.YtjdppboomglenaaDoorEngS
namespace Go.Proofs.YtjdppboomglenaaDoor.Eng
open Go
set_option linter.unusedSimpArgs false

inductive JV where
  | mk (kind n : Int) (s : List UInt8) (l : List JV) (f : List (List UInt8 × JV))

mutual
def vc : JV → List V
  | .mk k n s l f => [.int .i64 k, .int .i64 n, .str s, .sl .no (toVs l), .sl .no (toPs f)]
def toVs : List JV → List V
  | [] => []
  | v :: vs => .agg (vc v) :: toVs vs
def toPs : List (List UInt8 × JV) → List V
  | [] => []
  | p :: ps => .agg (.str p.1 :: vc p.2) :: toPs ps
end
/-- A value. -/
abbrev toV (v : JV) : V := .agg (vc v)
theorem vc_length (v : JV) : (vc v).length = 5 := by cases v; simp [vc]
theorem vc_take (v : JV) : (vc v).take 5 = vc v := List.take_of_length_le (by rw [vc_length]; omega)
mutual
theorem vc_plain : ∀ v : JV, plainL (vc v) = vc v
  | .mk k n s l f => by simp [vc, plainL, V.plain, toVs_plain l, toPs_plain f]
theorem toVs_plain : ∀ l : List JV, plainL (toVs l) = toVs l
  | [] => rfl
  | v :: vs => by simp [toVs, plainL, V.plain, vc_plain v, toVs_plain vs]
theorem toPs_plain : ∀ l : List (List UInt8 × JV), plainL (toPs l) = toPs l
  | [] => rfl
  | p :: ps => by simp [toPs, plainL, V.plain, vc_plain p.2, toPs_plain ps]
end
mutual
theorem vc_und : ∀ (v : JV) (n b : Nat), undL n b (vc v) = true
  | .mk k m s l f, n, b => by simp [vc, undL, V.und, toVs_und l n b, toPs_und f n b]
theorem toVs_und : ∀ (l : List JV) (n b : Nat), undL n b (toVs l) = true
  | [], _, _ => rfl
  | v :: vs, n, b => by simp [toVs, undL, V.und, vc_und v n b, toVs_und vs n b]
theorem toPs_und : ∀ (l : List (List UInt8 × JV)) (n b : Nat), undL n b (toPs l) = true
  | [], _, _ => rfl
  | p :: ps, n, b => by simp [toPs, undL, V.und, vc_und p.2 n b, toPs_und ps n b]
end
def JV.kind : JV → Int | .mk k _ _ _ _ => k
def JV.n : JV → Int | .mk _ n _ _ _ => n
def JV.s : JV → List UInt8 | .mk _ _ s _ _ => s
def JV.l : JV → List JV | .mk _ _ _ l _ => l
def JV.f : JV → List (List UInt8 × JV) | .mk _ _ _ _ f => f

theorem toVs_length (l : List JV) : (toVs l).length = l.length := by induction l <;> simp [toVs, *]
theorem toPs_length (l : List (List UInt8 × JV)) : (toPs l).length = l.length := by induction l <;> simp [toPs, *]
theorem toVs_get (l : List JV) (i : Nat) : (toVs l)[i]? = (l[i]?).map toV := by
  induction l generalizing i with
  | nil => simp [toVs]
  | cons x l ih => cases i <;> simp [toVs, ih]
theorem toPs_get (l : List (List UInt8 × JV)) (i : Nat) : (toPs l)[i]? = (l[i]?).map fun p => .agg (.str p.1 :: vc p.2) := by
  induction l generalizing i with
  | nil => simp [toPs]
  | cons x l ih => cases i <;> simp [toPs, ih]

/-! Numbers that an int64 holds; lengths that an int holds. -/
mutual
def JV.ok : JV → Prop
  | .mk k n s l f => (-9223372036854775808 ≤ k ∧ k ≤ 9223372036854775807) ∧ (-9223372036854775808 ≤ n ∧ n ≤ 9223372036854775807) ∧ s.length ≤ 9223372036854775807 ∧
    l.length ≤ 9223372036854775807 ∧ f.length ≤ 9223372036854775807 ∧ okVs l ∧ okPs f
def okVs : List JV → Prop
  | [] => True
  | v :: vs => v.ok ∧ okVs vs
def okPs : List (List UInt8 × JV) → Prop
  | [] => True
  | p :: ps => p.1.length ≤ 9223372036854775807 ∧ p.2.ok ∧ okPs ps
end
theorem okVs_mem {l : List JV} (h : okVs l) : ∀ v ∈ l, v.ok := by
  induction l with
  | nil => simp
  | cons x l ih => intro v hv; exact (List.mem_cons.1 hv).elim (fun e => e ▸ h.1) (fun hv => ih h.2 v hv)
theorem okPs_mem {l : List (List UInt8 × JV)} (h : okPs l) : ∀ p ∈ l, p.1.length ≤ 9223372036854775807 ∧ p.2.ok := by
  induction l with
  | nil => simp
  | cons x l ih => intro v hv; exact (List.mem_cons.1 hv).elim (fun e => e ▸ ⟨h.1, h.2.1⟩) (fun hv => ih h.2.2 v hv)

/-! ### few -/
mutual
def fewV : JV → Int → Int
  | .mk _ _ s l f, n => if n < 1 ∨ 500 < s.length then -1 else fewPs f (fewVs l (n - 1))
def fewVs : List JV → Int → Int
  | [], n => n
  | v :: vs, n => if 0 ≤ n then fewVs vs (fewV v n) else n
def fewPs : List (List UInt8 × JV) → Int → Int
  | [], n => n
  | p :: ps, n => if 0 ≤ n then if 500 < p.1.length then -1 else fewPs ps (fewV p.2 n) else n
end

attribute [local simp] evC_reg evR_cons evR_nil runR_some regK_some evC_ret evC_skip evC_exit Out_seq Out_blk Out_some seqQ_norm seqQ_ret seqQ_exit blkQ_norm blkQ_ret blkQ_exit loopQ_norm loopQ_ret loopQ_exit
attribute [local simp] stepR evOp put upd_apply X.ev initEnv cells_agg cells_int cells_str cells_bool cells_sl cells_ptr cells_pnil cells_fn cells_map vc_length vc_take vc_plain vc_und takeN evBin isSh intBin strBin callK resOf packR fin V.plain V.und scK kill dstsO dstsL dstsR ite_some ite_pair ite_vbool evUn evLoad evLen V.real finLoop_false quietK_false kill_none

theorem fewLoop1 (k nn : Int) (b : List UInt8) (L : List JV) (f : List (List UInt8 × JV)) (id : Nat) (hL : L.length ≤ 9223372036854775807)
    (ih : ∀ x ∈ L, ∀ (n : Int) (s : St), -1 ≤ n → n ≤ 1000 → call G 14 [toV x, .int .i64 n] s = some (.int .i64 (fewV x n), s)) (hle : ∀ x ∈ L, ∀ n, -1 ≤ fewV x n ∧ (0 ≤ n → fewV x n ≤ n)) (v4 : V) :
    ∀ (m i : Nat) (n : Int) (env : Env) (s : St), L.length - i = m → i ≤ L.length → env 2 = .ptr id 0 → env 1 = .int .i64 n → env 5 = .int .i64 i → env 4 = v4 →
      s.obs[id]? = some (.cells 25 [.int .i64 k, .int .i64 nn, .str b, .sl .no (toVs L), .sl .no (toPs f)]) → -1 ≤ n → n ≤ 1000 →
      Out (evC G (.loop false af14l0) env s) (fun e env' s' => e = .exit 0 ∧ s' = s ∧ env' 1 = .int .i64 (fewVs (L.drop i) n) ∧ env' 2 = .ptr id 0 ∧ env' 4 = v4) := by
  intro m
  induction m with
  | zero =>
    intro i n env s hm hi h2 h1 h5 h4 hs hn0 hn1
    have : i = L.length := by omega
    subst this
    refine Out_loop G false _ _ af14l0.eq_1 _ _ _ ?_
    simp [h2, h1, h5, hs, toVs_length]
    refine Out_cond _ _ _ _ _ _ _ rfl ?_ ?_
    · intro h; cases h
    · intro _
      simp [h2, h1, h4, fewVs]
  | succ m ihm =>
    intro i n env s hm hi h2 h1 h5 h4 hs hn0 hn1
    have hlt : i < L.length := by omega
    refine Out_loop G false _ _ af14l0.eq_1 _ _ _ ?_
    simp [h2, h1, h5, hs, toVs_length, hlt]
    refine Out_cond _ _ _ _ _ _ _ rfl ?_ ?_
    · intro h
      simp at h
      simp [h2, h1, h5, h4, hs, toVs_get, List.getElem?_eq_getElem hlt, ih L[i] (List.getElem_mem hlt) n s hn0 hn1]
      rw [wrap_in (by omega) (by omega)]
      have hd := List.drop_eq_getElem_cons hlt
      have hfew := hle L[i] (List.getElem_mem hlt) n
      refine (ihm (i + 1) (fewV L[i] n) _ s (by omega) (by omega) (by simp [h2]) (by simp) (by simp) (by simp [h4]) hs (by omega) (by omega)).mono ?_
      rintro e env' s' ⟨rfl, rfl, g1, g2, g3⟩
      refine ⟨rfl, rfl, ?_, g2, g3⟩
      rw [g1, hd, fewVs, if_pos h]
    · intro h
      simp at h
      have hd := List.drop_eq_getElem_cons hlt
      simp [h2, h1, h4]
      rw [hd, fewVs, if_neg (by omega)]

theorem fewLoop2 (k nn : Int) (b : List UInt8) (l : List JV) (L : List (List UInt8 × JV)) (id : Nat) (hL : L.length ≤ 9223372036854775807)
    (ih : ∀ x ∈ L, ∀ (n : Int) (s : St), -1 ≤ n → n ≤ 1000 → call G 14 [toV x.2, .int .i64 n] s = some (.int .i64 (fewV x.2 n), s)) (hle : ∀ x ∈ L, ∀ n, -1 ≤ fewV x.2 n ∧ (0 ≤ n → fewV x.2 n ≤ n)) :
    ∀ (m i : Nat) (n : Int) (env : Env) (s : St), L.length - i = m → i ≤ L.length → env 2 = .ptr id 0 → env 1 = .int .i64 n → env 6 = .int .i64 i →
      s.obs[id]? = some (.cells 25 [.int .i64 k, .int .i64 nn, .str b, .sl .no (toVs l), .sl .no (toPs L)]) → -1 ≤ n → n ≤ 1000 →
      Out (evC G (.loop false af14l1) env s) (fun e env' s' => s' = s ∧ ((e = .exit 2 ∧ env' 1 = .int .i64 (fewPs (L.drop i) n)) ∨ (e = .ret ∧ env' 4 = .int .i64 (fewPs (L.drop i) n)))) := by
  intro m
  induction m with
  | zero =>
    intro i n env s hm hi h2 h1 h5 hs hn0 hn1
    have : i = L.length := by omega
    subst this
    refine Out_loop G false _ _ af14l1.eq_1 _ _ _ ?_
    simp [h2, h1, h5, hs, toPs_length]
    refine Out_cond _ _ _ _ _ _ _ rfl ?_ ?_
    · intro h; cases h
    · intro _
      simp [h2, h1, fewPs]
  | succ m ihm =>
    intro i n env s hm hi h2 h1 h5 hs hn0 hn1
    have hlt : i < L.length := by omega
    have hd := List.drop_eq_getElem_cons hlt
    refine Out_loop G false _ _ af14l1.eq_1 _ _ _ ?_
    simp [h2, h1, h5, hs, toPs_length, hlt]
    refine Out_cond _ _ _ _ _ _ _ rfl ?_ ?_
    · intro h
      simp at h
      simp [h2, h1, h5, hs, toPs_get, List.getElem?_eq_getElem hlt]
      refine Out_cond _ _ _ _ _ _ _ rfl ?_ ?_
      · intro h500
        simp at h500
        simp
        rw [hd, fewPs, if_pos h, if_pos (by omega)]
      · intro h500
        simp at h500
        simp [h2, h1, h5, hs, toPs_get, List.getElem?_eq_getElem hlt, ih L[i] (List.getElem_mem hlt) n s hn0 hn1]
        rw [wrap_in (by omega) (by omega)]
        have hfew := hle L[i] (List.getElem_mem hlt) n
        refine (ihm (i + 1) (fewV L[i].2 n) _ s (by omega) (by omega) (by simp [h2]) (by simp) (by simp) hs (by omega) (by omega)).mono ?_
        rintro e env' s' ⟨rfl, g⟩
        refine ⟨rfl, ?_⟩
        rw [hd, fewPs, if_pos h, if_neg (by omega)]
        exact g
    · intro h
      simp at h
      simp [h2, h1]
      rw [hd, fewPs, if_neg (by omega)]

mutual
theorem fewV_le : ∀ (v : JV) (n : Int), -1 ≤ fewV v n ∧ (0 ≤ n → fewV v n ≤ n)
  | .mk k nn s l f, n => by
    unfold fewV
    split
    · omega
    · have h1 := fewVs_le l (n - 1) (by omega)
      have h2 := fewPs_le f (fewVs l (n - 1)) (by omega)
      omega
theorem fewVs_le : ∀ (l : List JV) (n : Int), -1 ≤ n → -1 ≤ fewVs l n ∧ fewVs l n ≤ n
  | [], n, h => by simp [fewVs, h]
  | v :: vs, n, h => by
    unfold fewVs
    split
    · rename_i h0
      have h1 := fewV_le v n
      have h2 := fewVs_le vs (fewV v n) (by omega)
      omega
    · omega
theorem fewPs_le : ∀ (l : List (List UInt8 × JV)) (n : Int), -1 ≤ n → -1 ≤ fewPs l n ∧ fewPs l n ≤ n
  | [], n, h => by simp [fewPs, h]
  | p :: ps, n, h => by
    unfold fewPs
    split
    · split
      · omega
      · have h1 := fewV_le p.2 n
        have h2 := fewPs_le ps (fewV p.2 n) (by omega)
        omega
    · omega
end

theorem few_spec : ∀ (v : JV), v.ok → ∀ (n : Int) (s : St), -1 ≤ n → n ≤ 1000 → call G 14 [toV v, .int .i64 n] s = some (.int .i64 (fewV v n), s)
  | .mk k nn b l f, hok, n, s, hn0, hn1 => by
    obtain ⟨_, _, hb, hl, hf, hokl, hokf⟩ := hok
    have ihl : ∀ x ∈ l, ∀ (n : Int) (s : St), -1 ≤ n → n ≤ 1000 → call G 14 [toV x, .int .i64 n] s = some (.int .i64 (fewV x n), s) := fun x hx => few_spec x (okVs_mem hokl x hx)
    have ihf : ∀ x ∈ f, ∀ (n : Int) (s : St), -1 ≤ n → n ≤ 1000 → call G 14 [toV x.2, .int .i64 n] s = some (.int .i64 (fewV x.2 n), s) := fun x hx => few_spec x.2 (okPs_mem hokf x hx).2
    refine call_out (F := af14) rfl rfl ?_
    simp [af14, af14b, vc]
    refine Out_cond _ _ _ _ _ _ _ rfl ?_ ?_
    · intro h
      simp at h
      simp [fewV]
      omega
    · intro h
      simp at h
      simp
      have hw : IntKind.i64.wrap (n - 1) = n - 1 := wrap_in (by omega) (by omega)
      simp only [hw]
      have hf1 := fewVs_le l (n - 1) (by omega)
      refine (fewLoop1 k nn b l f s.obs.length hl ihl (fun x _ n => fewV_le x n) _ l.length 0 (n - 1) _ _ (by omega) (by omega) (by simp) (by simp) (by simp) rfl (by simp) (by omega) (by omega)).mono ?_
      rintro e env s' ⟨rfl, rfl, g1, g2, g3⟩
      rw [List.drop_zero] at g1
      simp
      refine (fewLoop2 k nn b l f s.obs.length hf ihf (fun x _ n => fewV_le x.2 n) f.length 0 (fewVs l (n - 1)) _ _ (by omega) (by omega) (by simp [g2]) (by simp [g1]) (by simp) (by simp) (by omega) (by omega)).mono ?_
      rintro e env s' ⟨rfl, ⟨rfl, g⟩ | ⟨rfl, g⟩⟩
      · rw [List.drop_zero] at g
        have hn : ¬ (n < 1 ∨ 500 < b.length) := by omega
        simp [g, fewV, hn]
      · rw [List.drop_zero] at g
        have hn : ¬ (n < 1 ∨ 500 < b.length) := by omega
        simp [g, fewV, hn]
termination_by v => SizeOf.sizeOf v
decreasing_by
  · have := List.sizeOf_lt_of_mem hx
    simp; omega
  · have := List.sizeOf_lt_of_mem hx
    obtain ⟨a, b⟩ := x
    simp at this ⊢; omega

end Go.Proofs.YtjdppboomglenaaDoor.Eng
