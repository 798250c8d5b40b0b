/-
  Payloads: what the functions do, one behind the other. No condition.
-/
import Derived.Test.YtboejpobmpfifaaGreatDoorJSpecs
/-
  Numbers written by the reference; few, right, the same, of values. No condition.
-/
namespace Go.Proofs.YtboejpobmpfifaaGreatDoor.Eng
open Go
set_option linter.unusedSimpArgs false
set_option linter.unusedVariables false

attribute [local simp] evC_reg evC_regD evR_cons evR_nil runR_some regK_some evC_ret evC_skip evC_exit Out_seq Out_blk Out_some seqQ_norm seqQ_ret seqQ_exit blkQ_norm blkQ_ret blkQ_exit loopQ_norm loopQ_ret loopQ_exit
attribute [local simp] stepR evOp put upd_apply X.ev initEnv cells_agg cells_int cells_str cells_bool cells_sl cells_ptr cells_pnil cells_fn cells_map vc_length vc_take vc_plain vc_und toVs_plain toPs_plain toVs_und toPs_und takeN evBin isSh intBin strBin callK resOf packR fin V.plain plainL V.und undL scK kill dstsO dstsL dstsR ite_some ite_pair ite_vbool evUn evLoad evLen V.real finLoop_false quietK_false quietK_same kill_none
theorem wrapU8 {n : Int} (h0 : 0 ≤ n) : IntKind.u8.wrap n = n % 256 := by
  have e : (2 : Int) ^ IntKind.u8.bits = 256 := by decide
  have e'' : IntKind.u8.signed = false := by decide
  unfold IntKind.wrap
  simp only [e, e'', Bool.false_and, Bool.false_eq_true, if_false]

theorem imax9 : i64max = 9223372036854775807 := rfl

def dig0 (u : Nat) : List UInt8 := if u = 0 then [] else Lib.decDigits u
theorem dig0_step {u : Nat} (h : u ≠ 0) : dig0 u = dig0 (u / 10) ++ [UInt8.ofNat (48 + u % 10)] := by
  unfold dig0
  rw [if_neg h]
  by_cases hu : u < 10
  · rw [Lib.decDigits, dif_pos hu, if_pos (by omega)]
    simp [Nat.mod_eq_of_lt hu]
  · rw [Lib.decDigits, dif_neg hu, if_neg (by omega)]

theorem numLoop (s : St) : ∀ (m : Nat) (n : Int) (k : Nat) (env : Env) (acc : List UInt8) (v4 : V), 20 - k = m → k ≤ 20 → -9223372036854775808 ≤ n → n ≤ 9223372036854775807 → n.natAbs < 10 ^ m → acc.length ≤ k → env 0 = .int .i64 n → env 3 = .str acc → env 4 = v4 → env 5 = .int .i64 k →
    Out (evC G (.loop false af109l0) env s) (fun e env' s' => e = .exit 0 ∧ s' = s ∧ env' 3 = .str (dig0 n.natAbs ++ acc) ∧ env' 4 = v4) := by
  intro m
  induction m with
  | zero =>
    intro n k env acc v4 hm hk hn0 hn1 hlt ha h0 h3 h4 h5
    have : k = 20 := by omega
    subst this
    have hz : n = 0 := by omega
    subst hz
    refine Out_loop G false _ _ af109l0.eq_1 _ _ _ ?_
    simp [h5]
    refine Out_cond _ _ _ _ _ _ _ rfl (fun h => by simp at h) (fun _ => ?_)
    simp [h3, h4, dig0]
  | succ m ih =>
    intro n k env acc v4 hm hk hn0 hn1 hlt ha h0 h3 h4 h5
    have hk' : k < 20 := by omega
    have hki : ((k : Int) < 20) := by omega
    have hwi : IntKind.i64.wrap ((k : Int) + 1) = ((k + 1 : Nat) : Int) := by rw [wrap_in (by omega) (by omega)]; omega
    refine Out_loop G false _ _ af109l0.eq_1 _ _ _ ?_
    simp [h0, h5, hki]
    by_cases hz : n = 0
    · subst hz
      refine Out_cond _ _ _ _ _ _ _ rfl (fun h => by simp at h) (fun _ => ?_)
      simp [h3, h4, dig0]
    · refine Out_cond _ _ _ _ _ _ _ rfl (fun _ => ?_) (fun h => by simp at h; exact absurd h hz)
      have hu : n.natAbs ≠ 0 := by omega
      have hmod : ((n.tmod 10).natAbs) = n.natAbs % 10 := by rw [Int.natAbs_tmod]; rfl
      have hdiv : ((n.tdiv 10).natAbs) = n.natAbs / 10 := by rw [Int.natAbs_tdiv]; rfl
      have hdw : IntKind.i64.wrap (n.tdiv 10) = n.tdiv 10 := wrap_in (by omega) (by omega)
      have hdlt : (n.tdiv 10).natAbs < 10 ^ m := by rw [hdiv]; rw [Nat.pow_succ] at hlt; omega
      have fin_ : ∀ env' : Env, env' 0 = .int .i64 (n.tdiv 10) → env' 3 = .str (UInt8.ofNat (48 + n.natAbs % 10) :: acc) → env' 4 = v4 → env' 5 = .int .i64 (k + 1 : Nat) →
          Out (evC G (.loop false af109l0) env' s) (fun e env'' s' => e = .exit 0 ∧ s' = s ∧ env'' 3 = .str (dig0 n.natAbs ++ acc) ∧ env'' 4 = v4) := by
        intro env' g0 g3 g4 g5
        refine Out.mono (ih (n.tdiv 10) (k + 1) env' _ v4 (by omega) (by omega) (by omega) (by omega) hdlt (by simp; omega) g0 g3 g4 g5) ?_
        rintro e env'' s' ⟨rfl, rfl, h, h'⟩
        refine ⟨rfl, rfl, ?_, h'⟩
        rw [h, hdiv, dig0_step hu, List.append_assoc]
        rfl
      have hl2 : (1 + (acc.length : Int) ≤ 9223372036854775807) := by omega
      obtain ⟨d, hd⟩ : ∃ d, n.natAbs % 10 = d := ⟨_, rfl⟩
      have hd10 : d < 10 := by omega
      rw [hd] at fin_
      have w2 : IntKind.i64.wrap (48 + (d : Int)) = 48 + (d : Int) := by rw [wrap_in (by omega) (by omega)]
      have w3 : IntKind.u8.wrap (48 + (d : Int)) = 48 + (d : Int) := by rw [wrapU8] <;> omega
      have b0 : (0 : Int) ≤ 48 + (d : Int) := by omega
      have b1 : 48 + (d : Int) < 256 := by omega
      have t1 : (48 + (d : Int)).toNat = 48 + d := by omega
      simp [h0]
      refine Out_cond _ _ _ _ _ _ _ rfl (fun hneg => ?_) (fun hneg => ?_)
      · have hng : n.tmod 10 < 0 := by simpa using hneg
        have w1 : IntKind.i64.wrap (-n.tmod 10) = (d : Int) := by rw [wrap_in (by omega) (by omega)]; omega
        have w1' : IntKind.i64.wrap (0 - n.tmod 10) = (d : Int) := by rw [wrap_in (by omega) (by omega)]; omega
        simp [h0, h3, h5, w1, w1', w2, w3, fillS, V.one, bytesOf, b0, b1, t1, imax9, hl2, hdw, hwi]
        refine fin_ _ ?_ ?_ ?_ ?_
        · simp
        · simp
        · simp [h4]
        · simp
      · have hng : ¬ n.tmod 10 < 0 := by simpa using hneg
        have w1 : n.tmod 10 = (d : Int) := by omega
        simp [h0, h3, h5, w1, w2, w3, fillS, V.one, bytesOf, b0, b1, t1, imax9, hl2, hdw, hwi]
        refine fin_ _ ?_ ?_ ?_ ?_
        · simp
        · simp
        · simp [h4]
        · simp

theorem itoa_dig (n : Int) (h : n ≠ 0) : Lib.itoa n = if n < 0 then 45 :: dig0 n.natAbs else dig0 n.natAbs := by
  unfold Lib.itoa dig0
  have hz : ¬ n.natAbs = 0 := by omega
  rw [if_neg hz]
  split
  · rfl
  · rw [show n.toNat = n.natAbs by omega]

theorem number_spec (n : Int) (h0 : -9223372036854775808 ≤ n) (h1 : n ≤ 9223372036854775807) (s : St) : call G 109 [.int .i64 n] s = some (.str (Lib.itoa n), s) := by
  refine call_out (F := af109) rfl rfl ?_
  simp [af109, af109b]
  refine Out_cond _ _ _ _ _ _ _ rfl (fun hz => ?_) (fun hz => ?_)
  · have : n = 0 := by simpa using hz
    subst this
    have : Lib.itoa 0 = [48] := by unfold Lib.itoa; rw [if_neg (by omega), Lib.decDigits]; rfl
    simp [this]
  · have hz' : n ≠ 0 := by simpa using hz
    have hdl : (dig0 n.natAbs).length ≤ 20 := by
      have : ∀ (m u : Nat), u < 10 ^ m → (dig0 u).length ≤ m := by
        intro m
        induction m with
        | zero => intro u hu; have : u = 0 := by omega
                  subst this; simp [dig0]
        | succ m ih =>
          intro u hu
          by_cases hu0 : u = 0
          · subst hu0; simp [dig0]
          · rw [dig0_step hu0, List.length_append]
            have := ih (u / 10) (by rw [Nat.pow_succ] at hu; omega)
            simp; omega
      exact this 20 _ (by omega)
    have e20 : n.natAbs < 10 ^ 20 := by omega
    have hl2 : 1 + ((dig0 n.natAbs).length : Int) ≤ 9223372036854775807 := by omega
    have hl3 : ((dig0 n.natAbs).length : Int) ≤ 9223372036854775807 := by omega
    rw [itoa_dig n hz']
    simp
    refine Out_cond _ _ _ _ _ _ _ rfl (fun hn => ?_) (fun hn => ?_)
    · have hn' : n < 0 := by simpa using hn
      simp
      refine Out.mono (numLoop s 20 n 0 _ [] (.str [45]) (by omega) (by omega) h0 h1 e20 (by simp) ?_ ?_ ?_ ?_) ?_
      · simp
      · simp
      · simp
      · simp
      rintro e env' s' ⟨rfl, rfl, g3, g4⟩
      simp [g3, g4, hn', imax9, hl2]
    · have hn' : ¬ n < 0 := by simpa using hn
      simp
      refine Out.mono (numLoop s 20 n 0 _ [] (.str []) (by omega) (by omega) h0 h1 e20 (by simp) ?_ ?_ ?_ ?_) ?_
      · simp
      · simp
      · simp
      · simp
      rintro e env' s' ⟨rfl, rfl, g3, g4⟩
      simp [g3, g4, hn', imax9, hl3]

theorem fewT_spec (v : JV) (hok : v.ok) (s : St) : call G 30 [toV v, .int .i64 60] s = some (.bool (decide (0 ≤ fewV v 60)), s) := by
  have h := fun s => few_spec v hok 60 s (by omega) (by omega)
  refine call_out (F := af30) rfl rfl ?_
  simp [af30, af30b, h]

theorem rightT_spec (v : JV) (hok : v.ok) (s : St) : call G 32 [toV v] s = some (.bool (treeV v 12), s) := by
  have h := fun s => ref_spec v hok 12 s (by omega) (by omega)
  simp only [ref_tree] at h
  refine call_out (F := af32) rfl rfl ?_
  simp [af32, af32b, h]

mutual
def sameV : JV → JV → Bool
  | .mk k n s l f, .mk k' n' s' l' f' => decide (k = k') && decide (n = n') && decide (s = s') && decide (l.length = l'.length) && decide (f.length = f'.length) && sameVs l l' && samePs f f'
def sameVs : List JV → List JV → Bool
  | v :: vs, w :: ws => sameV v w && sameVs vs ws
  | _, _ => true
def samePs : List (List UInt8 × JV) → List (List UInt8 × JV) → Bool
  | p :: ps, q :: qs => decide (p.1 = q.1) && sameV p.2 q.2 && samePs ps qs
  | _, _ => true
end

mutual
theorem sameV_iff : ∀ v w : JV, sameV v w = true ↔ v = w
  | .mk k n s l f, .mk k' n' s' l' f' => by
    have h1 := sameVs_iff l l'
    have h2 := samePs_iff f f'
    simp only [sameV, Bool.and_eq_true, decide_eq_true_eq, JV.mk.injEq]
    constructor
    · rintro ⟨⟨⟨⟨⟨⟨a, b⟩, c⟩, d⟩, e⟩, g⟩, h⟩
      exact ⟨a, b, c, (h1 d).1 g, (h2 e).1 h⟩
    · rintro ⟨rfl, rfl, rfl, rfl, rfl⟩
      exact ⟨⟨⟨⟨⟨⟨rfl, rfl⟩, rfl⟩, rfl⟩, rfl⟩, (h1 rfl).2 rfl⟩, (h2 rfl).2 rfl⟩
theorem sameVs_iff : ∀ l l' : List JV, l.length = l'.length → (sameVs l l' = true ↔ l = l')
  | [], [], _ => by simp [sameVs]
  | [], _ :: _, h => by simp at h
  | _ :: _, [], h => by simp at h
  | v :: vs, w :: ws, h => by
    have h1 := sameV_iff v w
    have h2 := sameVs_iff vs ws (by simpa using h)
    simp only [sameVs, Bool.and_eq_true, List.cons.injEq, h1, h2]
theorem samePs_iff : ∀ l l' : List (List UInt8 × JV), l.length = l'.length → (samePs l l' = true ↔ l = l')
  | [], [], _ => by simp [samePs]
  | [], _ :: _, h => by simp at h
  | _ :: _, [], h => by simp at h
  | p :: ps, q :: qs, h => by
    have h1 := sameV_iff p.2 q.2
    have h2 := samePs_iff ps qs (by simpa using h)
    obtain ⟨a, b⟩ := p
    obtain ⟨a', b'⟩ := q
    simp only [samePs, Bool.and_eq_true, decide_eq_true_eq, List.cons.injEq, Prod.mk.injEq, h1, h2]
end

theorem sameLoop0 (k nn : Int) (b : List UInt8) (L : List JV) (f : List (List UInt8 × JV)) (k' nn' : Int) (b' : List UInt8) (L' : List JV) (f' : List (List UInt8 × JV)) (id id' : Nat) (hL : L.length ≤ 9223372036854775807) (hLL : L.length = L'.length) (s : St)
    (h1 : s.obs[id]? = some (.cells 46 [.int .i64 k, .int .i64 nn, .str b, .sl .no (toVs L), .sl .no (toPs f)])) (h2 : s.obs[id']? = some (.cells 46 [.int .i64 k', .int .i64 nn', .str b', .sl .no (toVs L'), .sl .no (toPs f')]))
    (ih : ∀ x ∈ L, ∀ (w : JV) (s : St), call G 26 [toV x, toV w] s = some (.bool (sameV x w), s)) :
    ∀ (m i : Nat) (env : Env), L.length - i = m → i ≤ L.length → env 2 = .ptr id 0 → env 3 = .ptr id' 0 → env 5 = .int .i64 i →
      Out (evC G (.loop false af26l0) env s) (fun e env' s' => s' = s ∧ ((sameVs (L.drop i) (L'.drop i) = true ∧ e = .exit 0 ∧ env' 2 = .ptr id 0 ∧ env' 3 = .ptr id' 0) ∨ (sameVs (L.drop i) (L'.drop i) = false ∧ e = .ret ∧ env' 4 = .bool false))) := by
  intro m
  induction m with
  | zero =>
    intro i env hm hi g2 g3 g5
    have : i = L.length := by omega
    subst this
    refine Out_loop G false _ _ af26l0.eq_1 _ _ _ ?_
    simp [g2, g3, g5, h1, toVs_length]
    refine Out_cond _ _ _ _ _ _ _ rfl (fun h => by simp at h) (fun _ => ?_)
    simp [g2, g3, sameVs]
  | succ m ihm =>
    intro i env hm hi g2 g3 g5
    have hlt : i < L.length := by omega
    have hlt' : i < L'.length := by omega
    have hdr := List.drop_eq_getElem_cons hlt
    have hdr' := List.drop_eq_getElem_cons hlt'
    have hwi : IntKind.i64.wrap ((i : Int) + 1) = ((i + 1 : Nat) : Int) := by rw [wrap_in (by omega) (by omega)]; omega
    have hc := ih L[i] (List.getElem_mem hlt) L'[i] s
    refine Out_loop G false _ _ af26l0.eq_1 _ _ _ ?_
    simp [g2, g3, g5, h1, toVs_length]
    refine Out_cond _ _ _ _ _ _ _ rfl (fun _ => ?_) (fun h => by simp at h; omega)
    simp [g2, g3, g5, h1, h2, toVs_get, List.getElem?_eq_getElem hlt, List.getElem?_eq_getElem hlt', hc]
    refine Out_cond _ _ _ _ _ _ _ rfl (fun hr => ?_) (fun hr => ?_)
    · have hr' : sameV L[i] L'[i] = false := by simpa using hr
      rw [hdr, hdr', sameVs, hr']
      simp
    · have hr' : sameV L[i] L'[i] = true := by simpa using hr
      rw [hdr, hdr', sameVs, hr']
      simp [g5, hwi]
      exact ihm (i + 1) _ (by omega) (by omega) (by simp [g2]) (by simp [g3]) (by simp)

theorem sameLoop1 (k nn : Int) (b : List UInt8) (l : List JV) (L : List (List UInt8 × JV)) (k' nn' : Int) (b' : List UInt8) (l' : List JV) (L' : List (List UInt8 × JV)) (id id' : Nat) (hL : L.length ≤ 9223372036854775807) (hLL : L.length = L'.length) (s : St)
    (h1 : s.obs[id]? = some (.cells 46 [.int .i64 k, .int .i64 nn, .str b, .sl .no (toVs l), .sl .no (toPs L)])) (h2 : s.obs[id']? = some (.cells 46 [.int .i64 k', .int .i64 nn', .str b', .sl .no (toVs l'), .sl .no (toPs L')]))
    (ih : ∀ x ∈ L, ∀ (w : JV) (s : St), call G 26 [toV x.2, toV w] s = some (.bool (sameV x.2 w), s)) :
    ∀ (m i : Nat) (env : Env), L.length - i = m → i ≤ L.length → env 2 = .ptr id 0 → env 3 = .ptr id' 0 → env 6 = .int .i64 i →
      Out (evC G (.loop false af26l1) env s) (fun e env' s' => s' = s ∧ ((samePs (L.drop i) (L'.drop i) = true ∧ e = .exit 2) ∨ (samePs (L.drop i) (L'.drop i) = false ∧ e = .ret ∧ env' 4 = .bool false))) := by
  intro m
  induction m with
  | zero =>
    intro i env hm hi g2 g3 g5
    have : i = L.length := by omega
    subst this
    refine Out_loop G false _ _ af26l1.eq_1 _ _ _ ?_
    simp [g2, g3, g5, h1, toPs_length]
    refine Out_cond _ _ _ _ _ _ _ rfl (fun h => by simp at h) (fun _ => ?_)
    simp [samePs]
  | succ m ihm =>
    intro i env hm hi g2 g3 g5
    have hlt : i < L.length := by omega
    have hlt' : i < L'.length := by omega
    have hdr := List.drop_eq_getElem_cons hlt
    have hdr' := List.drop_eq_getElem_cons hlt'
    have hwi : IntKind.i64.wrap ((i : Int) + 1) = ((i + 1 : Nat) : Int) := by rw [wrap_in (by omega) (by omega)]; omega
    have hc := ih L[i] (List.getElem_mem hlt) L'[i].2 s
    rw [hdr, hdr']
    generalize hp : L[i] = p at *
    generalize hp' : L'[i] = p' at *
    obtain ⟨ka, x⟩ := p
    obtain ⟨kb, y⟩ := p'
    simp only [samePs] at hc ⊢
    refine Out_loop G false _ _ af26l1.eq_1 _ _ _ ?_
    simp [g2, g3, g5, h1, toPs_length]
    refine Out_cond _ _ _ _ _ _ _ rfl (fun _ => ?_) (fun h => by simp at h; omega)
    by_cases hk : ka = kb
    · simp [g2, g3, g5, h1, h2, toPs_get, List.getElem?_eq_getElem hlt, List.getElem?_eq_getElem hlt', hp, hp', hc, hk]
      refine Out_cond _ _ _ _ _ _ _ rfl (fun hr => ?_) (fun hr => ?_)
      · have hr' : sameV x y = false := by simpa using hr
        simp [hr']
      · have hr' : sameV x y = true := by simpa using hr
        simp [g5, hwi, hr']
        exact ihm (i + 1) _ (by omega) (by omega) (by simp [g2]) (by simp [g3]) (by simp)
    · simp [g2, g3, g5, h1, h2, toPs_get, List.getElem?_eq_getElem hlt, List.getElem?_eq_getElem hlt', hp, hp', hk]
      refine Out_cond _ _ _ _ _ _ _ rfl (fun hr => ?_) (fun hr => by simp at hr)
      simp [hk]

theorem same_spec : ∀ (v w : JV), v.ok → ∀ (s : St), call G 26 [toV v, toV w] s = some (.bool (sameV v w), s)
  | .mk k nn b l f, .mk k' nn' b' l' f', hok, s => by
    obtain ⟨_, _, hb, hl, hf, hokl, hokf⟩ := hok
    have ihl : ∀ x ∈ l, ∀ (w : JV) (s : St), call G 26 [toV x, toV w] s = some (.bool (sameV x w), s) := fun x hx w s => same_spec x w (okVs_mem hokl x hx) s
    have ihf : ∀ x ∈ f, ∀ (w : JV) (s : St), call G 26 [toV x.2, toV w] s = some (.bool (sameV x.2 w), s) := fun x hx w s => same_spec x.2 w (okPs_mem hokf x hx).2 s
    have ho1 : (s.obs ++ [AObj.cells 46 [.int .i64 k, .int .i64 nn, .str b, .sl .no (toVs l), .sl .no (toPs f)], AObj.cells 46 [.int .i64 k', .int .i64 nn', .str b', .sl .no (toVs l'), .sl .no (toPs f')]])[s.obs.length]? = some (.cells 46 [.int .i64 k, .int .i64 nn, .str b, .sl .no (toVs l), .sl .no (toPs f)]) := by simp
    have ho2 : (s.obs ++ [AObj.cells 46 [.int .i64 k, .int .i64 nn, .str b, .sl .no (toVs l), .sl .no (toPs f)], AObj.cells 46 [.int .i64 k', .int .i64 nn', .str b', .sl .no (toVs l'), .sl .no (toPs f')]])[s.obs.length + 1]? = some (.cells 46 [.int .i64 k', .int .i64 nn', .str b', .sl .no (toVs l'), .sl .no (toPs f')]) := by simp
    refine call_out (F := af26) rfl rfl ?_
    simp [af26, af26b, vc, toVs_length, toPs_length]
    refine Out_cond _ _ _ _ _ _ _ rfl (fun h => ?_) (fun h => ?_)
    · have hf' : sameV (.mk k nn b l f) (.mk k' nn' b' l' f') = false := by
        simp only [sameV]
        simp at h
        grind
      simp [hf']
    · have h' : k = k' ∧ nn = nn' ∧ b = b' ∧ l.length = l'.length ∧ f.length = f'.length := by
        simp at h
        grind
      obtain ⟨e1, e2, e3, e4, e5⟩ := h'
      have hs : sameV (.mk k nn b l f) (.mk k' nn' b' l' f') = (sameVs l l' && samePs f f') := by simp [sameV, e1, e2, e3, e4, e5]
      rw [hs]
      simp
      refine Out.mono (sameLoop0 k nn b l f k' nn' b' l' f' s.obs.length (s.obs.length + 1) hl e4 _ ho1 ho2 ihl l.length 0 _ (by omega) (by omega) (by simp) (by simp) (by simp)) ?_
      rintro e env s' ⟨rfl, ⟨g1, rfl, g2, g3⟩ | ⟨g1, rfl, g4⟩⟩
      · simp only [List.drop_zero] at g1
        simp
        refine Out.mono (sameLoop1 k nn b l f k' nn' b' l' f' s.obs.length (s.obs.length + 1) hf e5 _ ho1 ho2 ihf f.length 0 _ (by omega) (by omega) (by simp [g2]) (by simp [g3]) (by simp)) ?_
        rintro e env s' ⟨rfl, ⟨q1, rfl⟩ | ⟨q1, rfl, q4⟩⟩
        · simp only [List.drop_zero] at q1
          simp [g1, q1]
        · simp only [List.drop_zero] at q1
          simp [g1, q1, q4]
      · simp only [List.drop_zero] at g1
        simp [g1, g4]
termination_by v => SizeOf.sizeOf v
decreasing_by
  · have := List.sizeOf_lt_of_mem hx
    simp; omega
  · have := List.sizeOf_lt_of_mem hx
    obtain ⟨a, b⟩ := x
    simp at this ⊢; omega


theorem eqLoopV (L : List JV) (L' : List JV) (f : FuncId) (hL : L.length ≤ 9223372036854775807) (hLL : L.length = L'.length) (ih : ∀ x ∈ L, ∀ (w : JV) (s : St), call G f [toV x, toV w] s = some (.bool (sameV x w), s)) :
    ∀ (m i : Nat) (env : Env) (s : St), L.length - i = m → i ≤ L.length → env 1 = .sl .no (toVs L') → env 2 = .fn (.func f) [] [] → env 15 = .sl .no (toVs L) → env 16 = .int .i64 L.length → env 17 = .int .i64 i →
      Out (evC G (.loop false af244l0) env s) (fun e env' s' => (∃ ex, s' = ⟨s.obs ++ ex, s.bufs⟩) ∧ ((sameVs (L.drop i) (L'.drop i) = true ∧ e = .exit 0) ∨ (sameVs (L.drop i) (L'.drop i) = false ∧ e = .ret ∧ env' 6 = .bool false))) := by
  intro m
  induction m with
  | zero =>
    intro i env s hm hi g1 g2 g15 g16 g17
    have : i = L.length := by omega
    subst this
    refine Out_loop G false _ _ af244l0.eq_1 _ _ _ ?_
    simp [g16, g17]
    refine Out_cond _ _ _ _ _ _ _ rfl (fun h => by simp at h) (fun _ => ?_)
    simp [sameVs]
    exact ⟨[], by simp⟩
  | succ m ihm =>
    intro i env s hm hi g1 g2 g15 g16 g17
    have hlt : i < L.length := by omega
    have hlt' : i < L'.length := by omega
    have hdr := List.drop_eq_getElem_cons hlt
    have hdr' := List.drop_eq_getElem_cons hlt'
    have hwi : IntKind.i64.wrap ((i : Int) + 1) = ((i + 1 : Nat) : Int) := by rw [wrap_in (by omega) (by omega)]; omega
    have hc := fun s => ih L[i] (List.getElem_mem hlt) L'[i] s
    rw [hdr, hdr']
    generalize hp : L[i] = p at *
    generalize hp' : L'[i] = p' at *
    obtain ⟨k, nn, b, l, f1⟩ := p
    obtain ⟨k', nn', b', l', f1'⟩ := p'
    simp only [toV, vc] at hc
    refine Out_loop G false _ _ af244l0.eq_1 _ _ _ ?_
    simp [g1, g2, g15, g16, g17]
    refine Out_cond _ _ _ _ _ _ _ rfl (fun _ => ?_) (fun h => by simp at h; omega)
    simp [g1, g2, g15, g16, g17, toVs_get, List.getElem?_eq_getElem hlt, List.getElem?_eq_getElem hlt', hp, hp', hc, vc, evStore, putL, V.one, List.getElem?_append, List.set_append]
    refine Out_cond _ _ _ _ _ _ _ rfl (fun hr => ?_) (fun hr => ?_)
    · have hr' : sameV (.mk k nn b l f1) (.mk k' nn' b' l' f1') = false := by simpa using hr
      rw [sameVs, hr']
      simp
    · have hr' : sameV (.mk k nn b l f1) (.mk k' nn' b' l' f1') = true := by simpa using hr
      rw [sameVs, hr']
      simp [g17, hwi]
      refine Out.mono (ihm (i + 1) _ _ (by omega) (by omega) (by simp [g1]) (by simp [g2]) (by simp [g15]) (by simp [g16]) (by simp)) ?_
      rintro e env' s' ⟨⟨ex, rfl⟩, h⟩
      refine ⟨?_, by simpa using h⟩
      simp only [List.append_assoc]
      exact ⟨_, rfl⟩

theorem eqLoopP (L : List (List UInt8 × JV)) (L' : List (List UInt8 × JV)) (f : FuncId) (hL : L.length ≤ 9223372036854775807) (hLL : L.length = L'.length) (ih : ∀ x ∈ L, ∀ (w : List UInt8 × JV) (s : St), call G f [pv x, pv w] s = some (.bool (decide (x.1 = w.1) && sameV x.2 w.2), s)) :
    ∀ (m i : Nat) (env : Env) (s : St), L.length - i = m → i ≤ L.length → env 1 = .sl .no (toPs L') → env 2 = .fn (.func f) [] [] → env 15 = .sl .no (toPs L) → env 16 = .int .i64 L.length → env 17 = .int .i64 i →
      Out (evC G (.loop false af245l0) env s) (fun e env' s' => (∃ ex, s' = ⟨s.obs ++ ex, s.bufs⟩) ∧ ((samePs (L.drop i) (L'.drop i) = true ∧ e = .exit 0) ∨ (samePs (L.drop i) (L'.drop i) = false ∧ e = .ret ∧ env' 6 = .bool false))) := by
  intro m
  induction m with
  | zero =>
    intro i env s hm hi g1 g2 g15 g16 g17
    have : i = L.length := by omega
    subst this
    refine Out_loop G false _ _ af245l0.eq_1 _ _ _ ?_
    simp [g16, g17]
    refine Out_cond _ _ _ _ _ _ _ rfl (fun h => by simp at h) (fun _ => ?_)
    simp [samePs]
    exact ⟨[], by simp⟩
  | succ m ihm =>
    intro i env s hm hi g1 g2 g15 g16 g17
    have hlt : i < L.length := by omega
    have hlt' : i < L'.length := by omega
    have hdr := List.drop_eq_getElem_cons hlt
    have hdr' := List.drop_eq_getElem_cons hlt'
    have hwi : IntKind.i64.wrap ((i : Int) + 1) = ((i + 1 : Nat) : Int) := by rw [wrap_in (by omega) (by omega)]; omega
    have hc := fun s => ih L[i] (List.getElem_mem hlt) L'[i] s
    rw [hdr, hdr']
    generalize hp : L[i] = p at *
    generalize hp' : L'[i] = p' at *
    obtain ⟨ka, k, nn, b, l, f1⟩ := p
    obtain ⟨kb, k', nn', b', l', f1'⟩ := p'
    simp only [pv, vc] at hc
    refine Out_loop G false _ _ af245l0.eq_1 _ _ _ ?_
    simp [g1, g2, g15, g16, g17]
    refine Out_cond _ _ _ _ _ _ _ rfl (fun _ => ?_) (fun h => by simp at h; omega)
    simp [g1, g2, g15, g16, g17, toPs_get, List.getElem?_eq_getElem hlt, List.getElem?_eq_getElem hlt', hp, hp', hc, vc, evStore, putL, V.one, List.getElem?_append, List.set_append]
    refine Out_cond _ _ _ _ _ _ _ rfl (fun hr => ?_) (fun hr => ?_)
    · have hr' : (decide (ka = kb) && sameV (.mk k nn b l f1) (.mk k' nn' b' l' f1')) = false := by by_cases hk : ka = kb <;> simp_all
      rw [samePs, hr']
      simp
    · have hr' : (decide (ka = kb) && sameV (.mk k nn b l f1) (.mk k' nn' b' l' f1')) = true := by by_cases hk : ka = kb <;> simp_all
      rw [samePs, hr']
      simp [g17, hwi]
      refine Out.mono (ihm (i + 1) _ _ (by omega) (by omega) (by simp [g1]) (by simp [g2]) (by simp [g15]) (by simp [g16]) (by simp)) ?_
      rintro e env' s' ⟨⟨ex, rfl⟩, h⟩
      refine ⟨?_, by simpa using h⟩
      simp only [List.append_assoc]
      exact ⟨_, rfl⟩


theorem tsame_spec : ∀ (v w : JV), v.ok → ∀ (s : St), call G 179 [toV v, toV w] s = some (.bool (sameV v w), s)
  | .mk k nn b l f, .mk k' nn' b' l' f', hok, s => by
    obtain ⟨_, _, hb, hl, hf, hokl, hokf⟩ := hok
    have ihl : ∀ x ∈ l, ∀ (w : JV) (s : St), call G 179 [toV x, toV w] s = some (.bool (sameV x w), s) := fun x hx w s => tsame_spec x w (okVs_mem hokl x hx) s
    have ihf : ∀ x ∈ f, ∀ (w : List UInt8 × JV) (s : St), call G 243 [pv x, pv w] s = some (.bool (decide (x.1 = w.1) && sameV x.2 w.2), s) := fun x hx w s => by
      have h := fun s => tsame_spec x.2 w.2 (okPs_mem hokf x hx).2 s
      obtain ⟨ka, k, nn, b, l, f1⟩ := x
      obtain ⟨kb, k', nn', b', l', f1'⟩ := w
      simp only [toV, vc] at h
      refine call_out (F := af243) rfl rfl ?_
      simp [af243, af243b, pv, vc, h, List.getElem?_append]
    have e1 : ∀ s, l.length = l'.length → call G 244 [.sl .no (toVs l), .sl .no (toVs l'), .fn (.func 179) [] []] s = some (.bool (sameVs l l'), s) := fun s he => by
      refine call_out (F := af244) rfl rfl ?_
      simp [af244, af244b, toVs_length]
      refine Out_cond _ _ _ _ _ _ _ rfl (fun h => absurd he (by simp at h; omega)) (fun h => ?_)
      simp [toVs_length]
      refine Out.mono (eqLoopV l l' 179 hl he ihl l.length 0 _ _ (by omega) (by omega) (by simp) (by simp) (by simp) (by simp) (by simp)) ?_
      rintro e env s' ⟨⟨ex, rfl⟩, ⟨q1, rfl⟩ | ⟨q1, rfl, q2⟩⟩
      · simp only [List.drop_zero] at q1
        simp [q1]
      · simp only [List.drop_zero] at q1
        simp [q1, q2]
    have e2 : ∀ s, f.length = f'.length → call G 245 [.sl .no (toPs f), .sl .no (toPs f'), .fn (.func 243) [] []] s = some (.bool (samePs f f'), s) := fun s he => by
      refine call_out (F := af245) rfl rfl ?_
      simp [af245, af245b, toPs_length]
      refine Out_cond _ _ _ _ _ _ _ rfl (fun h => absurd he (by simp at h; omega)) (fun h => ?_)
      simp [toPs_length]
      refine Out.mono (eqLoopP f f' 243 hf he ihf f.length 0 _ _ (by omega) (by omega) (by simp) (by simp) (by simp) (by simp) (by simp)) ?_
      rintro e env s' ⟨⟨ex, rfl⟩, ⟨q1, rfl⟩ | ⟨q1, rfl, q2⟩⟩
      · simp only [List.drop_zero] at q1
        simp [q1]
      · simp only [List.drop_zero] at q1
        simp [q1, q2]
    have e1' : ∀ s, call G 244 [.sl .no (toVs l), .sl .no (toVs l'), .fn (.func 179) [] []] s = some (.bool (decide (l.length = l'.length) && sameVs l l'), s) := fun s => by
      by_cases he : l.length = l'.length
      · rw [e1 s he]; simp [he]
      · refine call_out (F := af244) rfl rfl ?_
        simp [af244, af244b, toVs_length]
        refine Out_cond _ _ _ _ _ _ _ rfl (fun h => ?_) (fun h => absurd h (by simp; omega))
        simp [he]
    have e2' : ∀ s, call G 245 [.sl .no (toPs f), .sl .no (toPs f'), .fn (.func 243) [] []] s = some (.bool (decide (f.length = f'.length) && samePs f f'), s) := fun s => by
      by_cases he : f.length = f'.length
      · rw [e2 s he]; simp [he]
      · refine call_out (F := af245) rfl rfl ?_
        simp [af245, af245b, toPs_length]
        refine Out_cond _ _ _ _ _ _ _ rfl (fun h => ?_) (fun h => absurd h (by simp; omega))
        simp [he]
    refine call_out (F := af179) rfl rfl ?_
    simp [af179, af179b, vc, e1', e2', List.getElem?_append, sameV]
    by_cases h1 : k = k'
    · by_cases h2 : nn = nn'
      · by_cases h3 : b = b'
        · by_cases h4 : l.length = l'.length <;> by_cases h6 : f.length = f'.length <;> cases h7 : sameVs l l' <;> simp [h1, h2, h3, h4, h6, h7, e1', e2', List.getElem?_append]
        · simp [h1, h2, h3]
      · simp [h1, h2]
    · simp [h1]
termination_by v => SizeOf.sizeOf v
decreasing_by
  · have := List.sizeOf_lt_of_mem hx
    simp; omega
  · have := List.sizeOf_lt_of_mem hx
    obtain ⟨a, b⟩ := x
    simp at this ⊢; omega

theorem tSame_spec (v w : JV) (hv : v.ok) (hw : w.ok) (s : St) : call G 99 [toV v, toV w] s = some (.bool (treeV v 12 && treeV w 12 && sameV v w), s) := by
  have h1 := fun s => treeRight_spec v hv s
  have h2 := fun s => treeRight_spec w hw s
  have h3 := fun s => tsame_spec v w hv s
  refine call_out (F := af99) rfl rfl ?_
  obtain ⟨k, nn, b, l, f⟩ := v
  obtain ⟨k', nn', b', l', f'⟩ := w
  simp only [toV, vc] at h1 h2 h3
  cases e1 : treeV (.mk k nn b l f) 12 <;> cases e2 : treeV (.mk k' nn' b' l' f') 12 <;> simp [af99, af99b, vc, h1, h2, h3, e1, e2, List.getElem?_append]

def ownOf {α : Type} (bufs : List (Nat × Nat × TypeId)) (acc : List α) : Own := if acc = [] then .nil else .buf bufs.length
def exOf {α : Type} (by_ : Nat × TypeId) (acc : List α) : List (Nat × Nat × TypeId) := if acc = [] then [] else [(acc.length, by_)]

theorem fits1 (sz : Nat) (v : V) : fits sz [v] = (v.cells.length == sz) := rfl
theorem fits0 (sz : Nat) : fits sz [] = true := rfl
theorem app_own {α : Type} (enc : List α → List V) (h0 : enc [] = []) (hlen : ∀ a, (enc a).length = a.length) (sz by_ : Nat) (t : TypeId) (o : Own) (z : V) (hf : ∀ a, fits sz (enc a) = true) (hz : z.cells.length = sz)
    (acc : List α) (hr : (acc.length + 1) * by_ ≤ room) (obs : List AObj) (B : List (Nat × Nat × TypeId)) :
    evApp false sz (by_, t) (.sl (ownOf B acc) (enc acc)) (.sl o [z]) ⟨obs, B ++ exOf (by_, t) acc⟩ = some (.sl (.buf B.length) (enc acc ++ [z]), ⟨obs, B ++ [(acc.length + 1, by_, t)]⟩) := by
  have hfz : fits sz [z] = true := by rw [fits1, hz]; simp
  by_cases ha : acc = []
  · subst ha
    have : by_ ≤ room := by simpa using hr
    simp [evApp, appSrc, ownOf, exOf, h0, fits0, hfz, this]
  · have h1 := hlen acc
    simp [evApp, appSrc, ownOf, exOf, ha, hf, hfz, h1, hr]

theorem fitsVs (l : List JV) : fits 5 (toVs l) = true := by cases l <;> simp [toVs, fits]
theorem fitsPs (l : List (List UInt8 × JV)) : fits 6 (toPs l) = true := by
  cases l with
  | nil => rfl
  | cons p l => obtain ⟨k, v⟩ := p; simp [toPs, fits]
theorem toVs_app (l : List JV) (v : JV) : toVs (l ++ [v]) = toVs l ++ [toV v] := by
  induction l with
  | nil => simp [toVs]
  | cons x l ih => simp [toVs, ih]
theorem toPs_app (l : List (List UInt8 × JV)) (v : List UInt8 × JV) : toPs (l ++ [v]) = toPs l ++ [pv v] := by
  induction l with
  | nil => obtain ⟨k, v⟩ := v; simp [toPs]
  | cons x l ih => obtain ⟨k, y⟩ := x; simp [toPs, ih]

/-- A value of which the list grows, behind the objects A, ahead of others. -/
def CL (A J : List AObj) (B : List (Nat × Nat × TypeId)) (k nn : Int) (b : List UInt8) (acc : List JV) : St :=
  ⟨A ++ .cells 46 [.int .i64 k, .int .i64 nn, .str b, .sl (ownOf B acc) (toVs acc), .sl .nil []] :: J, B ++ exOf (80, 46) acc⟩

theorem CL_out (A J X : List AObj) (B : List (Nat × Nat × TypeId)) (k nn : Int) (b : List UInt8) (acc : List JV) :
    ((CL A J B k nn b acc).obs ++ X)[A.length]? = some (.cells 46 [.int .i64 k, .int .i64 nn, .str b, .sl (ownOf B acc) (toVs acc), .sl .nil []]) := by
  simp [CL]
theorem CL_app (A J X : List AObj) (B : List (Nat × Nat × TypeId)) (k nn : Int) (b : List UInt8) (acc : List JV) (v : JV) (hr : acc.length ≤ 1000000000) (o : Own) :
    evApp false 5 (80, 46) (.sl (ownOf B acc) (toVs acc)) (.sl o [toV v]) ⟨(CL A J B k nn b acc).obs ++ X, (CL A J B k nn b acc).bufs⟩ = some (.sl (.buf B.length) (toVs acc ++ [toV v]), ⟨(CL A J B k nn b acc).obs ++ X, B ++ [(acc.length + 1, 80, 46)]⟩) := by
  have hroom : room = 140737488355328 := by decide
  exact app_own toVs rfl toVs_length 5 80 46 o (toV v) fitsVs (by simp) acc (by rw [hroom]; omega) _ B
theorem CL_set (A J X : List AObj) (B : List (Nat × Nat × TypeId)) (k nn : Int) (b : List UInt8) (acc : List JV) (v : JV) :
    (⟨((CL A J B k nn b acc).obs ++ X).set A.length (.cells 46 [.int .i64 k, .int .i64 nn, .str b, .sl (.buf B.length) (toVs acc ++ [toV v]), .sl .nil []]), B ++ [(acc.length + 1, 80, 46)]⟩ : St) = CL A (J ++ X) B k nn b (acc ++ [v]) := by
  simp [CL, ownOf, exOf, toVs_app]

theorem cloneLoop0 (A : List AObj) (B : List (Nat × Nat × TypeId)) (k nn : Int) (b : List UInt8) (L : List JV) (hL : L.length ≤ 1000000000)
    (ih : ∀ x ∈ L, ∀ s, call G 151 [toV x] s = some (toV x, s)) :
    ∀ (m i : Nat) (env : Env) (J : List AObj), L.length - i = m → i ≤ L.length → env 3 = .ptr A.length 0 → env 16 = .sl .no (toVs L) → env 17 = .int .i64 L.length → env 18 = .int .i64 i →
      Out (evC G (.loop false af151l0) env (CL A J B k nn b (L.take i))) (fun e env' s' => e = .exit 0 ∧ env' 1 = env 1 ∧ env' 2 = env 2 ∧ env' 3 = env 3 ∧ ∃ J', s' = CL A J' B k nn b L) := by
  intro m
  induction m with
  | zero =>
    intro i env J hm hi g3 g16 g17 g18
    have : i = L.length := by omega
    subst this
    refine Out_loop G false _ _ af151l0.eq_1 _ _ _ ?_
    simp [g17, g18]
    refine Out_cond _ _ _ _ _ _ _ rfl (fun h => by simp at h) (fun _ => ?_)
    simp
    exact ⟨J, rfl⟩
  | succ m ihm =>
    intro i env J hm hi g3 g16 g17 g18
    have hlt : i < L.length := by omega
    have hwi : IntKind.i64.wrap ((i : Int) + 1) = ((i + 1 : Nat) : Int) := by rw [wrap_in (by omega) (by omega)]; omega
    have hc := fun s => ih L[i] (List.getElem_mem hlt) s
    have htk : L.take (i + 1) = L.take i ++ [L[i]] := by simp
    have hle : (L.take i).length ≤ 1000000000 := by rw [List.length_take]; omega
    have hout := fun X => CL_out A J X B k nn b (L.take i)
    have happ := fun X o => CL_app A J X B k nn b (L.take i) L[i] hle o
    have hset := fun X => CL_set A J X B k nn b (L.take i) L[i]
    have hnx := fun env J => ihm (i + 1) env J (by omega) (by omega)
    rw [htk] at hnx
    have hget : (toVs L)[i]? = some (toV L[i]) := by rw [toVs_get, List.getElem?_eq_getElem hlt]; rfl
    generalize L[i] = p at *
    generalize L.take i = acc at *
    obtain ⟨k2, n2, s2, l2, f2⟩ := p
    simp only [toV, vc] at hc happ hset hget
    refine Out_loop G false _ _ af151l0.eq_1 _ _ _ ?_
    simp [g17, g18]
    refine Out_cond _ _ _ _ _ _ _ rfl (fun _ => ?_) (fun h => by simp at h; omega)
    simp [g3, g16, g17, g18, hget, evStore, putL, V.one, List.getElem?_append_right, List.set_append_right, ↓hout, hc, fillS, happ, hwi]
    rw [hset]
    refine Out.mono (hnx _ _ (by simp [g3]) (by simp [g16]) (by simp [g17]) (by simp)) ?_
    rintro e env' s' ⟨rfl, q1, q2, q3, J', rfl⟩
    exact ⟨rfl, by simpa using q1, by simpa using q2, by simpa [g3] using q3, J', rfl⟩

/-- A value of which the pairs grow, behind the objects A, ahead of others. -/
def CP (A J : List AObj) (B : List (Nat × Nat × TypeId)) (k nn : Int) (b : List UInt8) (lv : V) (acc : List (List UInt8 × JV)) : St :=
  ⟨A ++ .cells 46 [.int .i64 k, .int .i64 nn, .str b, lv, .sl (ownOf B acc) (toPs acc)] :: J, B ++ exOf (96, 63) acc⟩

theorem CP_out (A J X : List AObj) (B : List (Nat × Nat × TypeId)) (k nn : Int) (b : List UInt8) (lv : V) (acc : List (List UInt8 × JV)) :
    ((CP A J B k nn b lv acc).obs ++ X)[A.length]? = some (.cells 46 [.int .i64 k, .int .i64 nn, .str b, lv, .sl (ownOf B acc) (toPs acc)]) := by
  simp [CP]
theorem CP_app (A J X : List AObj) (B : List (Nat × Nat × TypeId)) (k nn : Int) (b : List UInt8) (lv : V) (acc : List (List UInt8 × JV)) (v : List UInt8 × JV) (hr : acc.length ≤ 1000000000) (o : Own) :
    evApp false 6 (96, 63) (.sl (ownOf B acc) (toPs acc)) (.sl o [pv v]) ⟨(CP A J B k nn b lv acc).obs ++ X, (CP A J B k nn b lv acc).bufs⟩ = some (.sl (.buf B.length) (toPs acc ++ [pv v]), ⟨(CP A J B k nn b lv acc).obs ++ X, B ++ [(acc.length + 1, 96, 63)]⟩) := by
  have hroom : room = 140737488355328 := by decide
  exact app_own toPs rfl toPs_length 6 96 63 o (pv v) fitsPs (by simp) acc (by rw [hroom]; omega) _ B
theorem CP_set (A J X : List AObj) (B : List (Nat × Nat × TypeId)) (k nn : Int) (b : List UInt8) (lv : V) (acc : List (List UInt8 × JV)) (v : List UInt8 × JV) :
    (⟨((CP A J B k nn b lv acc).obs ++ X).set A.length (.cells 46 [.int .i64 k, .int .i64 nn, .str b, lv, .sl (.buf B.length) (toPs acc ++ [pv v])]), B ++ [(acc.length + 1, 96, 63)]⟩ : St) = CP A (J ++ X) B k nn b lv (acc ++ [v]) := by
  simp [CP, ownOf, exOf, toPs_app, pv]

theorem cloneLoop1 (A : List AObj) (B : List (Nat × Nat × TypeId)) (k nn : Int) (b : List UInt8) (lv : V) (L : List (List UInt8 × JV)) (hL : L.length ≤ 1000000000)
    (ih : ∀ x ∈ L, ∀ s, call G 151 [toV x.2] s = some (toV x.2, s)) :
    ∀ (m i : Nat) (env : Env) (J : List AObj), L.length - i = m → i ≤ L.length → env 3 = .ptr A.length 0 → env 31 = .sl .no (toPs L) → env 32 = .int .i64 L.length → env 33 = .int .i64 i →
      Out (evC G (.loop false af151l1) env (CP A J B k nn b lv (L.take i))) (fun e env' s' => e = .exit 2 ∧ env' 1 = env 1 ∧ env' 2 = env 2 ∧ env' 3 = env 3 ∧ ∃ J', s' = CP A J' B k nn b lv L) := by
  intro m
  induction m with
  | zero =>
    intro i env J hm hi g3 g31 g32 g33
    have : i = L.length := by omega
    subst this
    refine Out_loop G false _ _ af151l1.eq_1 _ _ _ ?_
    simp [g32, g33]
    refine Out_cond _ _ _ _ _ _ _ rfl (fun h => by simp at h) (fun _ => ?_)
    simp
    exact ⟨J, rfl⟩
  | succ m ihm =>
    intro i env J hm hi g3 g31 g32 g33
    have hlt : i < L.length := by omega
    have hwi : IntKind.i64.wrap ((i : Int) + 1) = ((i + 1 : Nat) : Int) := by rw [wrap_in (by omega) (by omega)]; omega
    have hc := fun s => ih L[i] (List.getElem_mem hlt) s
    have htk : L.take (i + 1) = L.take i ++ [L[i]] := by simp
    have hle : (L.take i).length ≤ 1000000000 := by rw [List.length_take]; omega
    have hout := fun X => CP_out A J X B k nn b lv (L.take i)
    have happ := fun X o => CP_app A J X B k nn b lv (L.take i) L[i] hle o
    have hset := fun X => CP_set A J X B k nn b lv (L.take i) L[i]
    have hnx := fun env J => ihm (i + 1) env J (by omega) (by omega)
    rw [htk] at hnx
    have hget : (toPs L)[i]? = some (pv L[i]) := by rw [toPs_get, List.getElem?_eq_getElem hlt]; rfl
    generalize L[i] = p at *
    generalize L.take i = acc at *
    obtain ⟨ky, k2, n2, s2, l2, f2⟩ := p
    simp only [pv, toV, vc] at hc happ hset hget
    refine Out_loop G false _ _ af151l1.eq_1 _ _ _ ?_
    simp [g32, g33]
    refine Out_cond _ _ _ _ _ _ _ rfl (fun _ => ?_) (fun h => by simp at h; omega)
    simp [g3, g31, g32, g33, hget, evStore, fillL, putL, V.one, List.getElem?_append_right, List.set_append_right, ↓hout, hc, fillS, happ, hwi]
    rw [hset]
    refine Out.mono (hnx _ _ (by simp [g3]) (by simp [g31]) (by simp [g32]) (by simp)) ?_
    rintro e env' s' ⟨rfl, q1, q2, q3, J', rfl⟩
    exact ⟨rfl, by simpa using q1, by simpa using q2, by simpa [g3] using q3, J', rfl⟩

mutual
def JV.lim : JV → Prop
  | .mk _ _ _ l f => l.length ≤ 1000000000 ∧ f.length ≤ 1000000000 ∧ limVs l ∧ limPs f
def limVs : List JV → Prop
  | [] => True
  | v :: vs => v.lim ∧ limVs vs
def limPs : List (List UInt8 × JV) → Prop
  | [] => True
  | p :: ps => p.2.lim ∧ limPs ps
end
theorem limVs_mem {l : List JV} (h : limVs l) : ∀ v ∈ l, v.lim := by
  induction l with
  | nil => simp
  | cons x l ih => intro v hv; exact (List.mem_cons.1 hv).elim (fun e => e ▸ h.1) (fun hv => ih h.2 v hv)
theorem limPs_mem {l : List (List UInt8 × JV)} (h : limPs l) : ∀ p ∈ l, p.2.lim := by
  induction l with
  | nil => simp
  | cons x l ih => intro v hv; exact (List.mem_cons.1 hv).elim (fun e => e ▸ h.1) (fun hv => ih h.2 v hv)

theorem clone_spec : ∀ (v : JV), v.lim → ∀ (s : St), call G 151 [toV v] s = some (toV v, s)
  | .mk k nn b l f, hlim, s => by
    obtain ⟨hl, hf, hll, hlf⟩ := hlim
    have ihl : ∀ x ∈ l, ∀ s, call G 151 [toV x] s = some (toV x, s) := fun x hx s => clone_spec x (limVs_mem hll x hx) s
    have ihf : ∀ x ∈ f, ∀ s, call G 151 [toV x.2] s = some (toV x.2, s) := fun x hx s => clone_spec x.2 (limPs_mem hlf x hx) s
    refine call_out (F := af151) rfl rfl ?_
    simp [af151, af151b, vc, toVs_length, toPs_length, evStore, fillL, putL, V.one, List.getElem?_append, List.set_append]
    obtain ⟨A, hA⟩ : ∃ A, s.obs ++ [.cells 46 [.int .i64 k, .int .i64 nn, .str b, .sl .no (toVs l), .sl .no (toPs f)], .cells 46 [.int .i64 0, .int .i64 0, .str [], .sl .nil [], .sl .nil []]] = A := ⟨_, rfl⟩
    have hAl : A.length = s.obs.length + 2 := by rw [← hA]; simp
    have e0 : (⟨s.obs ++ [.cells 46 [.int .i64 k, .int .i64 nn, .str b, .sl .no (toVs l), .sl .no (toPs f)], .cells 46 [.int .i64 0, .int .i64 0, .str [], .sl .nil [], .sl .nil []], .cells 46 [.int .i64 k, .int .i64 nn, .str b, .sl .nil [], .sl .nil []]], s.bufs⟩ : St) = CL A [] s.bufs k nn b (l.take 0) := by
      rw [← hA]; simp [CL, ownOf, exOf, toVs]
    have e1 : ∀ J, CL A J s.bufs k nn b l = CP A J (s.bufs ++ exOf (80, 46) l) k nn b (.sl (ownOf s.bufs l) (toVs l)) (f.take 0) := by
      intro J; simp [CL, CP, ownOf, exOf, toPs]
    have c1 : ∀ J, (CL A J s.bufs k nn b l).obs[s.obs.length]? = some (.cells 46 [.int .i64 k, .int .i64 nn, .str b, .sl .no (toVs l), .sl .no (toPs f)]) := by
      intro J; rw [← hA]; simp [CL]
    rw [e0]
    refine Out.mono (cloneLoop0 A s.bufs k nn b l hl ihl l.length 0 _ [] (by omega) (by omega) (by simp [hAl]) (by simp) (by simp) (by simp)) ?_
    rintro e env s' ⟨rfl, q1, q2, q3, J, rfl⟩
    simp at q1 q2 q3
    simp [q1, c1, toPs_length]
    rw [e1]
    refine Out.mono (cloneLoop1 A (s.bufs ++ exOf (80, 46) l) k nn b (.sl (ownOf s.bufs l) (toVs l)) f hf ihf f.length 0 _ J (by omega) (by omega) (by simp [q3, hAl]) (by simp) (by simp) (by simp)) ?_
    rintro e env' s' ⟨rfl, r1, r2, r3, J', rfl⟩
    simp [q1, q2, q3] at r1 r2 r3
    have c3 : (CP A J' (s.bufs ++ exOf (80, 46) l) k nn b (.sl (ownOf s.bufs l) (toVs l)) f).obs[s.obs.length + 2]? = some (.cells 46 [.int .i64 k, .int .i64 nn, .str b, .sl (ownOf s.bufs l) (toVs l), .sl (ownOf (s.bufs ++ exOf (80, 46) l) f) (toPs f)]) := by
      rw [← hAl]; simp [CP]
    have c2 : (CP A J' (s.bufs ++ exOf (80, 46) l) k nn b (.sl (ownOf s.bufs l) (toVs l)) f).obs[s.obs.length + 1]? = some (.cells 46 [.int .i64 0, .int .i64 0, .str [], .sl .nil [], .sl .nil []]) := by
      rw [← hA]; simp [CP]
    have c4 : ∀ X, ((CP A J' (s.bufs ++ exOf (80, 46) l) k nn b (.sl (ownOf s.bufs l) (toVs l)) f).obs.set (s.obs.length + 1) X)[s.obs.length + 1]? = some X := by
      intro X; rw [← hA]; simp [CP]
    have c5 : ∀ X, ((CP A J' (s.bufs ++ exOf (80, 46) l) k nn b (.sl (ownOf s.bufs l) (toVs l)) f).obs.set (s.obs.length + 1) X).take s.obs.length = s.obs := by
      intro X; rw [← hA]; simp [CP, List.set_append]
    have c6 : (CP A J' (s.bufs ++ exOf (80, 46) l) k nn b (.sl (ownOf s.bufs l) (toVs l)) f).bufs.take s.bufs.length = s.bufs := by simp [CP]
    simp [r2, r3, c3, c2, c4, c5, c6, evStore, putL, V.one, vc]

termination_by v => SizeOf.sizeOf v
decreasing_by
  · have := List.sizeOf_lt_of_mem hx
    simp; omega
  · have := List.sizeOf_lt_of_mem hx
    obtain ⟨a, b⟩ := x
    simp at this ⊢; omega

/-- Null. -/
def jNull : JV := .mk 0 0 [] [] []
/-- tree.Clone of a right value; of one that is not. -/
theorem tClone_spec (v : JV) (hv : v.ok) (hl : v.lim) (s : St) : call G 89 [toV v] s = some (toV (if treeV v 12 = true then v else jNull), s) := by
  have h1 := fun s => treeRight_spec v hv s
  have h2 := fun s => clone_spec v hl s
  refine call_out (F := af89) rfl rfl ?_
  obtain ⟨k, nn, b, l, f⟩ := v
  simp only [toV, vc] at h1 h2
  simp [af89, af89b, vc, h1, List.getElem?_append]
  refine Out_cond _ _ _ _ _ _ _ rfl (fun h => ?_) (fun h => ?_)
  · have e : treeV (.mk k nn b l f) 12 = false := by simpa using h
    simp [e, jNull, vc, toVs, toPs, fillL, evStore, putL, V.one, List.getElem?_append, List.set_append]
  · have e : treeV (.mk k nn b l f) 12 = true := by simpa using h
    simp [e, vc, h2, evStore, putL, V.one, List.getElem?_append, List.set_append]

/-- A step. -/
structure PStep where
  key : List UInt8
  at_ : Int
  idx : Bool
deriving DecidableEq
abbrev pS (x : PStep) : V := .agg [.str x.key, .int .i64 x.at_, .bool x.idx]
def pSs (l : List PStep) : List V := l.map pS
theorem pSs_length (l : List PStep) : (pSs l).length = l.length := by simp [pSs]
theorem pSs_get (l : List PStep) (i : Nat) : (pSs l)[i]? = (l[i]?).map pS := by simp [pSs]
theorem pSs_plain : ∀ l : List PStep, plainL (pSs l) = pSs l
  | [] => rfl
  | x :: l => by rw [show pSs (x :: l) = pS x :: pSs l from rfl, plainL, pSs_plain l]; rfl
theorem pSs_und (n b : Nat) : ∀ l : List PStep, undL n b (pSs l) = true
  | [] => rfl
  | x :: l => by rw [show pSs (x :: l) = pS x :: pSs l from rfl, undL, pSs_und n b l]; rfl
theorem pSs_app (l : List PStep) (x : PStep) : pSs (l ++ [x]) = pSs l ++ [pS x] := by simp [pSs]
theorem fitsSs (l : List PStep) : fits 3 (pSs l) = true := by cases l <;> simp [pSs, pS, fits]
attribute [local simp] pSs_plain pSs_und

def PStep.rightB (x : PStep) : Bool := if x.idx = true then decide (x.key = []) && decide (0 ≤ x.at_) && decide (x.at_ ≤ 9007199254740991) else decide (x.at_ = 0) && rightV x.key
def PStep.lim (x : PStep) : Prop := x.key.length ≤ 9223372036854775807 ∧ -9223372036854775808 ≤ x.at_ ∧ x.at_ ≤ 9223372036854775807
def pathR (l : List PStep) : Bool := decide (l.length ≤ 30) && l.all PStep.rightB

theorem stepRight_spec (x : PStep) (hx : x.lim) (s : St) : call G 238 [pS x] s = some (.bool x.rightB, s) := by
  obtain ⟨h1, h2, h3⟩ := hx
  have ht := fun s => textRight_spec' x.key h1 s
  obtain ⟨ke, at_, idx⟩ := x
  simp only at ht h2 h3
  refine call_out (F := af238) rfl rfl ?_
  cases idx with
  | true =>
    simp [af238, af238b, pS, PStep.rightB]
    refine Out_cond _ _ _ _ _ _ _ rfl (fun h => ?_) (fun h => by simp at h)
    by_cases e1 : ke = [] <;> by_cases e2 : 0 ≤ at_ <;> by_cases e3 : at_ ≤ 9007199254740991 <;> simp [e1, e2, e3]
  | false =>
    simp [af238, af238b, pS, PStep.rightB]
    refine Out_cond _ _ _ _ _ _ _ rfl (fun h => by simp at h) (fun h => ?_)
    by_cases e1 : at_ = 0 <;> simp [e1, ht]

theorem stepRight1_spec (x : PStep) (hx : x.lim) (s : St) : call G 237 [pS x] s = some (.bool (!x.rightB), s) := by
  have ht := fun s => stepRight_spec x hx s
  obtain ⟨ke, at_, idx⟩ := x
  simp only [pS] at ht
  refine call_out (F := af237) rfl rfl ?_
  simp [af237, af237b, pS, ht]

theorem idxLoopS (L : List PStep) (hL : L.length ≤ 9223372036854775807) (f : FuncId) (cap : List V) (hcap : plainL cap = cap) (g : PStep → Bool) :
    ∀ (m i : Nat) (env : Env) (s : St), L.length - i = m → i ≤ L.length → env 0 = .sl .no (pSs L) → env 1 = .fn (.func f) [] cap → env 7 = .int .i64 L.length → env 8 = .int .i64 i →
      (∀ x ∈ L, call G f (pS x :: cap) s = some (.bool (g x), s)) →
      Out (evC G (.loop false af282l0) env s) (fun e env' s' => s' = s ∧ ((idxV g (L.drop i) i = -1 ∧ e = .exit 0) ∨ (idxV g (L.drop i) i ≠ -1 ∧ e = .ret ∧ env' 4 = .int .i64 (idxV g (L.drop i) i)))) := by
  intro m
  induction m with
  | zero =>
    intro i env s hm hi h0 h1 h7 h8 hc
    have : i = L.length := by omega
    subst this
    refine Out_loop G false _ _ af282l0.eq_1 _ _ _ ?_
    simp [h7, h8]
    refine Out_cond _ _ _ _ _ _ _ rfl (fun h => by simp at h) (fun _ => ?_)
    simp [idxV]
  | succ m ihm =>
    intro i env s hm hi h0 h1 h7 h8 hc
    have hlt : i < L.length := by omega
    have hd := List.drop_eq_getElem_cons hlt
    refine Out_loop G false _ _ af282l0.eq_1 _ _ _ ?_
    simp [h7, h8]
    refine Out_cond _ _ _ _ _ _ _ rfl (fun _ => ?_) (fun h => by simp at h; omega)
    simp [h0, h1, h8, pSs_get, List.getElem?_eq_getElem hlt, hc L[i] (List.getElem_mem hlt)]
    refine Out_cond _ _ _ _ _ _ _ rfl (fun hg => ?_) (fun hg => ?_)
    · rw [hd, idxV, if_pos hg]
      simp
    · rw [hd, idxV, if_neg (by simp [hg])]
      have hw : IntKind.i64.wrap ((i : Int) + 1) = ((i + 1 : Nat) : Int) := by rw [wrap_in (by omega) (by omega)]; omega
      simp [h8, hw]
      exact ihm (i + 1) _ s (by omega) (by omega) (by simp [h0]) (by simp [h1]) (by simp [h7]) (by simp) hc

theorem containsS (L : List PStep) (hL : L.length ≤ 9223372036854775807) (f : FuncId) (cap : List V) (hcap : plainL cap = cap) (g : PStep → Bool) (s : St)
    (hc : ∀ x ∈ L, call G f (pS x :: cap) s = some (.bool (g x), s)) : call G 236 [.sl .no (pSs L), .fn (.func f) [] cap] s = some (.bool (L.any g), s) := by
  have h43 : call G 282 [.sl .no (pSs L), .fn (.func f) [] cap] s = some (.int .i64 (idxV g L 0), s) := by
    refine call_out (F := af282) rfl rfl ?_
    simp [af282, af282b, pSs_length]
    refine (idxLoopS L hL f cap hcap g L.length 0 _ s (by omega) (by omega) (by simp) (by simp) (by simp) (by simp) hc).mono ?_
    rintro e env s' ⟨rfl, ⟨h1, rfl⟩ | ⟨h1, rfl, h2⟩⟩
    · rw [List.drop_zero] at h1
      simp [h1]
    · rw [List.drop_zero] at h2
      simp [h2]
  refine call_out (F := af236) rfl rfl ?_
  simp [af236, af236b, h43, hcap]
  have := idxV_neg g L 0
  by_cases h : L.any g = true
  · have h0 := this.2.2 h
    simp [h, h0]
  · have h0 : ¬ 0 ≤ idxV g L 0 := fun q => h (this.2.1 q)
    have h' : L.any g = false := by simpa using h
    simp [h', h0]


theorem pathRight_spec (l : List PStep) (hl : l.length ≤ 1000000000) (hx : ∀ x ∈ l, x.lim) (s : St) : call G 168 [.sl .no (pSs l)] s = some (.bool (pathR l), s) := by
  have hc := fun s => containsS l (by omega) 237 [] rfl (fun x => !x.rightB) s (fun x h => stepRight1_spec x (hx x h) s)
  refine call_out (F := af168) rfl rfl ?_
  simp [af168, af168b, pSs_length, hc, pathR]
  by_cases e : l.length ≤ 30
  · have e' : (l.length : Int) ≤ 30 := by omega
    simp [e, e', hc, List.all_eq_not_any_not]
  · have e' : ¬ (l.length : Int) ≤ 30 := by omega
    simp [e, e']

theorem key_spec (b : List UInt8) (s : St) : call G 284 [.str b] s = some (pS ⟨b, 0, false⟩, s) := by
  refine call_out (F := af284) rfl rfl ?_
  simp [af284, af284b, fillL, evStore, putL, V.one, List.getElem?_append, List.set_append, pS]
theorem place_spec (n : Int) (s : St) : call G 285 [.int .i64 n] s = some (pS ⟨[], n, true⟩, s) := by
  refine call_out (F := af285) rfl rfl ?_
  simp [af285, af285b, fillL, evStore, putL, V.one, List.getElem?_append, List.set_append, pS]

end Go.Proofs.YtboejpobmpfifaaGreatDoor.Eng

namespace Go.Proofs.YtboejpobmpfifaaGreatDoor.Eng
open Go
set_option linter.unusedSimpArgs false
set_option linter.unusedVariables false

attribute [local simp] evC_reg evC_regD evR_cons evR_nil runR_some regK_some evC_ret evC_skip evC_exit Out_seq Out_blk Out_some seqQ_norm seqQ_ret seqQ_exit blkQ_norm blkQ_ret blkQ_exit loopQ_norm loopQ_ret loopQ_exit
attribute [local simp] stepR evOp put upd_apply X.ev initEnv cells_agg cells_int cells_str cells_bool cells_sl cells_ptr cells_pnil cells_fn cells_map vc_length vc_take vc_plain vc_und toVs_plain toPs_plain toVs_und toPs_und takeN evBin isSh intBin strBin callK resOf packR fin V.plain plainL V.und undL scK kill dstsO dstsL dstsR ite_some ite_pair ite_vbool evUn evLoad evLen V.real finLoop_false quietK_false quietK_same kill_none
attribute [local simp] pSs_plain pSs_und
def stepJ (s : PStep) : JV := if s.idx = true then .mk 2 s.at_ [] [] [] else .mk 3 0 s.key [] []
def pathJ (p : List PStep) : JV := .mk 4 0 [] (p.map stepJ) []

theorem pvLoop (A : List AObj) (B : List (Nat × Nat × TypeId)) (L : List PStep) (hL : L.length ≤ 1000000000) :
    ∀ (m i : Nat) (env : Env) (J : List AObj), L.length - i = m → i ≤ L.length → env 4 = .ptr A.length 0 → env 12 = .sl .no (pSs L) → env 13 = .int .i64 L.length → env 14 = .int .i64 i →
      Out (evC G (.loop false af230l0) env (CL A J B 4 0 [] ((L.take i).map stepJ))) (fun e env' s' => e = .exit 0 ∧ env' 2 = env 2 ∧ env' 4 = env 4 ∧ ∃ J', s' = CL A J' B 4 0 [] (L.map stepJ)) := by
  intro m
  induction m with
  | zero =>
    intro i env J hm hi g3 g16 g17 g18
    have : i = L.length := by omega
    subst this
    refine Out_loop G false _ _ af230l0.eq_1 _ _ _ ?_
    simp [g17, g18]
    refine Out_cond _ _ _ _ _ _ _ rfl (fun h => by simp at h) (fun _ => ?_)
    simp
    exact ⟨J, rfl⟩
  | succ m ihm =>
    intro i env J hm hi g3 g16 g17 g18
    have hlt : i < L.length := by omega
    have hwi : IntKind.i64.wrap ((i : Int) + 1) = ((i + 1 : Nat) : Int) := by rw [wrap_in (by omega) (by omega)]; omega
    have htk : (L.take (i + 1)).map stepJ = (L.take i).map stepJ ++ [stepJ L[i]] := by rw [List.take_succ_eq_append_getElem hlt, List.map_append]; rfl
    have hle : ((L.take i).map stepJ).length ≤ 1000000000 := by rw [List.length_map, List.length_take]; omega
    have hout := fun X => CL_out A J X B 4 0 [] ((L.take i).map stepJ)
    have happ := fun X o => CL_app A J X B 4 0 [] ((L.take i).map stepJ) (stepJ L[i]) hle o
    have hset := fun X => CL_set A J X B 4 0 [] ((L.take i).map stepJ) (stepJ L[i])
    have hnx := fun env J => ihm (i + 1) env J (by omega) (by omega)
    rw [htk] at hnx
    have hget : (pSs L)[i]? = some (pS L[i]) := by rw [pSs_get, List.getElem?_eq_getElem hlt]; rfl
    generalize L[i] = p at *
    generalize (L.take i).map stepJ = acc at *
    obtain ⟨ke, at_, idx⟩ := p
    simp only [pS] at hget
    refine Out_loop G false _ _ af230l0.eq_1 _ _ _ ?_
    simp [g17, g18]
    refine Out_cond _ _ _ _ _ _ _ rfl (fun _ => ?_) (fun h => by simp at h; omega)
    cases idx with
    | true =>
      simp only [stepJ, if_true, toV, vc, toVs, toPs] at happ hset
      simp [g3, g16, g17, g18, hget, evStore, fillL, putL, V.one, List.getElem?_append_right, List.set_append_right]
      refine Out_cond _ _ _ _ _ _ _ rfl (fun _ => ?_) (fun h => by simp at h)
      simp [g3, g18, evStore, fillL, putL, V.one, List.getElem?_append_right, List.set_append_right, ↓hout, fillS, happ, hwi]
      rw [hset]
      refine Out.mono (hnx _ _ (by simp [g3]) (by simp [g16]) (by simp [g17]) (by simp)) ?_
      rintro e env' s' ⟨rfl, q1, q2, J', rfl⟩
      exact ⟨rfl, by simpa using q1, by simpa [g3] using q2, J', rfl⟩
    | false =>
      simp only [stepJ, Bool.false_eq_true, if_false, toV, vc, toVs, toPs] at happ hset
      simp [g3, g16, g17, g18, hget, evStore, fillL, putL, V.one, List.getElem?_append_right, List.set_append_right]
      refine Out_cond _ _ _ _ _ _ _ rfl (fun h => by simp at h) (fun _ => ?_)
      simp [g3, g18, evStore, fillL, putL, V.one, List.getElem?_append_right, List.set_append_right, ↓hout, fillS, happ, hwi]
      rw [hset]
      refine Out.mono (hnx _ _ (by simp [g3]) (by simp [g16]) (by simp [g17]) (by simp)) ?_
      rintro e env' s' ⟨rfl, q1, q2, J', rfl⟩
      exact ⟨rfl, by simpa using q1, by simpa [g3] using q2, J', rfl⟩

theorem pathValue_spec (l : List PStep) (hl : l.length ≤ 1000000000) (hx : ∀ x ∈ l, x.lim) (s : St) :
    call G 230 [.sl .no (pSs l)] s = some (if pathR l = true then .tup [toV (pathJ l), .int .i64 0] else .tup [.agg [.int .i64 0, .int .i64 0, .str [], .sl .no [], .sl .no []], .int .i64 1], s) := by
  have hr := fun s => pathRight_spec l hl hx s
  refine call_out (F := af230) rfl rfl ?_
  simp [af230, af230b, hr]
  refine Out_cond _ _ _ _ _ _ _ rfl (fun h => ?_) (fun h => ?_)
  · have e : pathR l = false := by simpa using h
    simp [e, fillL, evStore, putL, V.one, List.getElem?_append, List.set_append]
  · have e : pathR l = true := by simpa using h
    simp [e, pSs_length, fillL, evStore, putL, V.one, List.getElem?_append, List.set_append]
    obtain ⟨A, hA⟩ : ∃ A, s.obs ++ [.cells 46 [.int .i64 0, .int .i64 0, .str [], .sl .nil [], .sl .nil []]] = A := ⟨_, rfl⟩
    have hAl : A.length = s.obs.length + 1 := by rw [← hA]; simp
    have e0 : (⟨s.obs ++ [.cells 46 [.int .i64 0, .int .i64 0, .str [], .sl .nil [], .sl .nil []], .cells 46 [.int .i64 4, .int .i64 0, .str [], .sl .nil [], .sl .nil []]], s.bufs⟩ : St) = CL A [] s.bufs 4 0 [] ((l.take 0).map stepJ) := by
      rw [← hA]; simp [CL, ownOf, exOf, toVs]
    rw [e0]
    refine Out.mono (pvLoop A s.bufs l hl l.length 0 _ [] (by omega) (by omega) (by simp [hAl]) (by simp) (by simp) (by simp)) ?_
    rintro e env s' ⟨rfl, q1, q2, J, rfl⟩
    simp at q1 q2
    have c3 : (CL A J s.bufs 4 0 [] (l.map stepJ)).obs[s.obs.length + 1]? = some (.cells 46 [.int .i64 4, .int .i64 0, .str [], .sl (ownOf s.bufs (l.map stepJ)) (toVs (l.map stepJ)), .sl .nil []]) := by
      rw [← hAl]; simp [CL]
    have c2 : (CL A J s.bufs 4 0 [] (l.map stepJ)).obs[s.obs.length]? = some (.cells 46 [.int .i64 0, .int .i64 0, .str [], .sl .nil [], .sl .nil []]) := by
      rw [← hA]; simp [CL]
    have c4 : ∀ X, ((CL A J s.bufs 4 0 [] (l.map stepJ)).obs.set s.obs.length X)[s.obs.length]? = some X := by
      intro X; rw [← hA]; simp [CL]
    have c5 : ∀ X, ((CL A J s.bufs 4 0 [] (l.map stepJ)).obs.set s.obs.length X).take s.obs.length = s.obs := by
      intro X; rw [← hA]; simp [CL, List.set_append]
    have c6 : (CL A J s.bufs 4 0 [] (l.map stepJ)).bufs.take s.bufs.length = s.bufs := by simp [CL]
    simp [q1, q2, c3, c2, c4, c5, c6, evStore, putL, V.one, vc, pathJ, toPs]

def stepOf (x : JV) : Option PStep := if x.kind = 3 then some ⟨x.s, 0, false⟩ else if x.kind = 2 ∧ 0 ≤ x.n then some ⟨[], x.n, true⟩ else none
def stepsOf : List JV → Option (List PStep)
  | [] => some []
  | x :: l => (stepOf x).bind fun p => (stepsOf l).map (p :: ·)

/-- A path that grows, B the buffers ahead of it. -/
def PG (O J : List AObj) (B : List (Nat × Nat × TypeId)) (acc : List PStep) : St := ⟨O ++ J, B ++ exOf (32, 214) acc⟩
theorem PG_app (O J X : List AObj) (B : List (Nat × Nat × TypeId)) (acc : List PStep) (v : PStep) (hr : acc.length ≤ 1000000000) (o : Own) :
    evApp false 3 (32, 214) (.sl (ownOf B acc) (pSs acc)) (.sl o [pS v]) ⟨(PG O J B acc).obs ++ X, (PG O J B acc).bufs⟩ = some (.sl (ownOf B (acc ++ [v])) (pSs (acc ++ [v])), PG O (J ++ X) B (acc ++ [v])) := by
  have hroom : room = 140737488355328 := by decide
  have h := app_own pSs rfl pSs_length 3 32 214 o (pS v) fitsSs (by simp) acc (by rw [hroom]; omega) ((PG O J B acc).obs ++ X) B
  refine h.trans ?_
  simp [PG, ownOf, exOf, pSs_app]

theorem poLoop (O : List AObj) (B : List (Nat × Nat × TypeId)) (L : List JV) (hL : L.length ≤ 1000000000) :
    ∀ (m i : Nat) (env : Env) (J : List AObj) (acc : List PStep), L.length - i = m → i ≤ L.length → acc.length = i → env 4 = .sl (ownOf B acc) (pSs acc) → env 16 = .sl .no (toVs L) → env 17 = .int .i64 L.length → env 18 = .int .i64 i →
      Out (evC G (.loop false af241l0) env (PG O J B acc)) (fun e env' s' => (∃ p, stepsOf (L.drop i) = some p ∧ e = .exit 0 ∧ env' 4 = .sl (ownOf B (acc ++ p)) (pSs (acc ++ p)) ∧ ∃ J', s' = PG O J' B (acc ++ p)) ∨
        (stepsOf (L.drop i) = none ∧ e = .ret ∧ env' 2 = .sl .nil [] ∧ env' 3 = .int .i64 1 ∧ ∃ q J', s' = PG O J' B q)) := by
  intro m
  induction m with
  | zero =>
    intro i env J acc hm hi ha g3 g16 g17 g18
    have : i = L.length := by omega
    subst this
    refine Out_loop G false _ _ af241l0.eq_1 _ _ _ ?_
    simp [g17, g18]
    refine Out_cond _ _ _ _ _ _ _ rfl (fun h => by simp at h) (fun _ => ?_)
    simp [stepsOf, g3]
    exact ⟨J, rfl⟩
  | succ m ihm =>
    intro i env J acc hm hi ha g3 g16 g17 g18
    have hlt : i < L.length := by omega
    have hdr := List.drop_eq_getElem_cons hlt
    have hwi : IntKind.i64.wrap ((i : Int) + 1) = ((i + 1 : Nat) : Int) := by rw [wrap_in (by omega) (by omega)]; omega
    have happ := fun v X o => PG_app O J X B acc v (by omega) o
    have hnx := fun env J v => ihm (i + 1) env J (acc ++ [v]) (by omega) (by omega) (by simp [ha])
    have hget : (toVs L)[i]? = some (toV L[i]) := by rw [toVs_get, List.getElem?_eq_getElem hlt]; rfl
    have hk := fun b s => key_spec b s
    have hp := fun n s => place_spec n s
    generalize L[i] = p at *
    obtain ⟨k, nn, b, l, f⟩ := p
    simp only [toV, vc] at hget
    rw [hdr]
    refine Out_loop G false _ _ af241l0.eq_1 _ _ _ ?_
    simp [g17, g18]
    refine Out_cond _ _ _ _ _ _ _ rfl (fun _ => ?_) (fun h => by simp at h; omega)
    simp [g3, g16, g17, g18, hget, evStore, fillL, putL, V.one, List.getElem?_append_right, List.set_append_right]
    refine Out_cond _ _ _ _ _ _ _ rfl (fun h => ?_) (fun h => ?_)
    · have h3 : k = 3 := by simpa using h
      subst h3
      have hs : stepOf (.mk 3 nn b l f) = some ⟨b, 0, false⟩ := by simp [stepOf, JV.kind, JV.s]
      have a1 := happ ⟨b, 0, false⟩
      simp only [pS] at a1
      simp [g3, g18, hk, evStore, fillL, fillS, putL, V.one, List.getElem?_append_right, List.set_append_right, a1, hwi]
      refine Out.mono (hnx _ _ _ (by simp) (by simp [g16]) (by simp [g17]) (by simp)) ?_
      rintro e env' s' (⟨p, q1, rfl, q2, J', rfl⟩ | ⟨q1, rfl, q2, q3, q, J', rfl⟩)
      · left
        exact ⟨⟨b, 0, false⟩ :: p, by simp [stepsOf, hs, q1], rfl, by rw [q2]; simp, J', by simp⟩
      · right
        exact ⟨by simp [stepsOf, hs, q1], rfl, q2, q3, q, J', rfl⟩
    · have h3 : k ≠ 3 := by simpa using h
      by_cases h2 : k = 2
      · subst h2
        by_cases hn : 0 ≤ nn
        · have hs : stepOf (.mk 2 nn b l f) = some ⟨[], nn, true⟩ := by simp [stepOf, JV.kind, JV.n, hn]
          have a2 := happ ⟨[], nn, true⟩
          simp only [pS] at a2
          simp [g3, g18, hp, hn, evStore, fillL, fillS, putL, V.one, List.getElem?_append_right, List.set_append_right]
          refine Out_cond _ _ _ _ _ _ _ rfl (fun _ => ?_) (fun h => by simp at h)
          simp [g3, g18, hp, hn, evStore, fillL, fillS, putL, V.one, List.getElem?_append_right, List.set_append_right, a2, hwi]
          refine Out.mono (hnx _ _ _ (by simp) (by simp [g16]) (by simp [g17]) (by simp)) ?_
          rintro e env' s' (⟨p, q1, rfl, q2, J', rfl⟩ | ⟨q1, rfl, q2, q3, q, J', rfl⟩)
          · left
            exact ⟨⟨[], nn, true⟩ :: p, by simp [stepsOf, hs, q1], rfl, by rw [q2]; simp, J', by simp⟩
          · right
            exact ⟨by simp [stepsOf, hs, q1], rfl, q2, q3, q, J', rfl⟩
        · have hs : stepOf (.mk 2 nn b l f) = none := by simp [stepOf, JV.kind, JV.n, hn]
          simp [g3, g18, hp, hn, evStore, fillL, fillS, putL, V.one, List.getElem?_append_right, List.set_append_right]
          refine Out_cond _ _ _ _ _ _ _ rfl (fun h => by simp at h) (fun _ => ?_)
          simp [stepsOf, hs]
          exact ⟨acc, J ++ _, by simp only [PG, List.append_assoc]; rfl⟩
      · have hs : stepOf (.mk k nn b l f) = none := by simp [stepOf, JV.kind, JV.n, h2, h3]
        simp [g3, g18, hp, h2, evStore, fillL, fillS, putL, V.one, List.getElem?_append_right, List.set_append_right]
        refine Out_cond _ _ _ _ _ _ _ rfl (fun h => by simp at h) (fun _ => ?_)
        simp [stepsOf, hs]
        exact ⟨acc, J ++ _, by simp only [PG, List.append_assoc]; rfl⟩

theorem stepsOf_lim : ∀ (l : List JV) (p : List PStep), okVs l → stepsOf l = some p → p.length = l.length ∧ ∀ x ∈ p, x.lim
  | [], p, _, h => by
    simp only [stepsOf, Option.some.injEq] at h
    subst h
    simp
  | v :: l, p, hok, h => by
    obtain ⟨h1, h2⟩ := hok
    rw [stepsOf] at h
    cases e1 : stepOf v with
    | none => rw [e1] at h; simp at h
    | some x =>
      cases e2 : stepsOf l with
      | none => rw [e1, e2] at h; simp at h
      | some q =>
        rw [e1, e2] at h
        simp at h
        subst h
        obtain ⟨i1, i2⟩ := stepsOf_lim l q h2 e2
        refine ⟨by simp [i1], fun y hy => ?_⟩
        rcases List.mem_cons.1 hy with rfl | hy
        · obtain ⟨k, nn, b, ll, f⟩ := v
          obtain ⟨_, hn, hb, _⟩ := h1
          by_cases a : k = 3
          · rw [show stepOf (.mk k nn b ll f) = some ⟨b, 0, false⟩ by simp [stepOf, JV.kind, JV.s, a]] at e1
            cases e1; exact ⟨hb, by simp, by simp⟩
          · by_cases c : k = 2 ∧ 0 ≤ nn
            · rw [show stepOf (.mk k nn b ll f) = some ⟨[], nn, true⟩ by simp [stepOf, JV.kind, JV.n, a, c.1, c.2]] at e1
              cases e1; exact ⟨by simp, hn⟩
            · rw [show stepOf (.mk k nn b ll f) = none from (if_neg a).trans (if_neg c)] at e1
              cases e1
        · exact i2 y hy

def pathOf (v : JV) : List PStep × Int :=
  if treeV v 12 = true ∧ v.kind = 4 then (match stepsOf v.l with | some p => if pathR p = true then (p, 0) else ([], 1) | none => ([], 1)) else ([], 1)

theorem pathOf_spec (v : JV) (hok : v.ok) (hlim : v.lim) (s : St) : call G 241 [toV v] s = some (.tup [.sl .no (pSs (pathOf v).1), .int .i64 (pathOf v).2], s) := by
  have h1 := fun s => treeRight_spec v hok s
  obtain ⟨k, nn, b, l, f⟩ := v
  obtain ⟨hl, _⟩ := hlim
  obtain ⟨_, _, _, _, _, hokl, _⟩ := hok
  simp only [toV, vc] at h1
  refine call_out (F := af241) rfl rfl ?_
  cases ht : treeV (.mk k nn b l f) 12 with
  | false =>
    simp [af241, af241b, vc, h1, ht, List.getElem?_append]
    refine Out_cond _ _ _ _ _ _ _ rfl (fun h => ?_) (fun h => by simp at h)
    simp [pathOf, ht, pSs]
  | true =>
    by_cases hk : k = 4
    · subst hk
      simp [af241, af241b, vc, h1, ht, List.getElem?_append]
      refine Out_cond _ _ _ _ _ _ _ rfl (fun h => by simp at h) (fun h => ?_)
      simp [toVs_length, List.getElem?_append]
      have e0 : (⟨s.obs ++ [.cells 46 [.int .i64 4, .int .i64 nn, .str b, .sl .no (toVs l), .sl .no (toPs f)]], s.bufs⟩ : St) = PG (s.obs ++ [.cells 46 [.int .i64 4, .int .i64 nn, .str b, .sl .no (toVs l), .sl .no (toPs f)]]) [] s.bufs [] := by simp [PG, exOf]
      rw [e0]
      refine Out.mono (poLoop _ s.bufs l hl l.length 0 _ [] [] (by omega) (by omega) rfl (by simp [ownOf, pSs]) (by simp) (by simp) (by simp)) ?_
      rintro e env' s' (⟨p, q1, rfl, q2, J', rfl⟩ | ⟨q1, rfl, q2, q3, q, J', rfl⟩)
      · simp only [List.drop_zero, List.nil_append] at q1 q2
        obtain ⟨hpl, hpx⟩ := stepsOf_lim l p hokl q1
        have hr := fun s => pathRight_spec p (by omega) hpx s
        simp [q2, hr]
        refine Out_cond _ _ _ _ _ _ _ rfl (fun h => ?_) (fun h => ?_)
        · have e : pathR p = false := by simpa using h
          simp [pathOf, ht, JV.kind, JV.l, q1, e, PG, pSs]
        · have e : pathR p = true := by simpa using h
          simp [q2, pathOf, ht, JV.kind, JV.l, q1, e, PG]
      · simp only [List.drop_zero] at q1
        simp [pathOf, ht, JV.kind, JV.l, q1, q2, q3, PG, pSs]
    · simp [af241, af241b, vc, h1, ht, hk, List.getElem?_append]
      refine Out_cond _ _ _ _ _ _ _ rfl (fun h => ?_) (fun h => by simp at h)
      simp [pathOf, ht, hk, JV.kind, pSs]

def getK (v : List (List UInt8 × JV)) (k : List UInt8) : Option JV := (v.find? fun p => decide (p.1 = k)).map (·.2)
def atK (v : JV) (k : List UInt8) : JV := (getK v.f k).getD jNull
def oneJ (v : JV) : JV := v.l.head?.getD jNull
def idOf (v : JV) : Int := match Lib.atoiAll v.s with | .ok n => n | _ => -1

theorem getLoop (O : List AObj) (B : List (Nat × Nat × TypeId)) (L : List (List UInt8 × JV)) (key : List UInt8) (hL : L.length ≤ 1000000000) (z : List V) (hz : z.length = 5) :
    ∀ (m i : Nat) (env : Env) (J : List AObj), L.length - i = m → i ≤ L.length → env 1 = .str key → env 4 = .ptr O.length 0 → env 5 = .bool false → env 9 = .sl .no (toPs L) → env 10 = .int .i64 L.length → env 11 = .int .i64 i →
      Out (evC G (.loop false af175l0) env ⟨O ++ .cells 46 z :: J, B⟩) (fun e env' s' => (getK (L.drop i) key = none ∧ e = .exit 0 ∧ env' 4 = .ptr O.length 0 ∧ env' 5 = .bool false ∧ ∃ J', s' = ⟨O ++ .cells 46 z :: J', B⟩) ∨
        (∃ x, getK (L.drop i) key = some x ∧ e = .ret ∧ env' 4 = .ptr O.length 0 ∧ env' 5 = .bool true ∧ ∃ J', s' = ⟨O ++ .cells 46 (vc x) :: J', B⟩)) := by
  intro m
  induction m with
  | zero =>
    intro i env J hm hi g1 g4 g5 g9 g10 g11
    have : i = L.length := by omega
    subst this
    refine Out_loop G false _ _ af175l0.eq_1 _ _ _ ?_
    simp [g10, g11]
    refine Out_cond _ _ _ _ _ _ _ rfl (fun h => by simp at h) (fun _ => ?_)
    simp [getK, g4, g5]
  | succ m ihm =>
    intro i env J hm hi g1 g4 g5 g9 g10 g11
    have hlt : i < L.length := by omega
    have hdr := List.drop_eq_getElem_cons hlt
    have hwi : IntKind.i64.wrap ((i : Int) + 1) = ((i + 1 : Nat) : Int) := by rw [wrap_in (by omega) (by omega)]; omega
    have hget : (toPs L)[i]? = some (pv L[i]) := by rw [toPs_get, List.getElem?_eq_getElem hlt]; rfl
    have hnx := fun env J => ihm (i + 1) env J (by omega) (by omega)
    generalize L[i] = p at *
    obtain ⟨ky, k, nn, b, l, f⟩ := p
    simp only [pv, vc] at hget
    rw [hdr]
    obtain ⟨z0, z1, z2, z3, z4, rfl⟩ : ∃ z0 z1 z2 z3 z4, z = [z0, z1, z2, z3, z4] := by
      match z, hz with
      | [a, b, c, d, e], _ => exact ⟨a, b, c, d, e, rfl⟩
    refine Out_loop G false _ _ af175l0.eq_1 _ _ _ ?_
    simp [g10, g11]
    refine Out_cond _ _ _ _ _ _ _ rfl (fun _ => ?_) (fun h => by simp at h; omega)
    simp [g1, g9, g11, hget, evStore, fillL, putL, V.one, List.getElem?_append, List.set_append]
    refine Out_cond _ _ _ _ _ _ _ rfl (fun h => ?_) (fun h => ?_)
    · have hk : ky = key := by simpa using h
      have hs : getK ((ky, JV.mk k nn b l f) :: L.drop (i + 1)) key = some (.mk k nn b l f) := by simp [getK, hk]
      simp [g4, hs, vc, evStore, fillL, putL, V.one, List.getElem?_append, List.set_append]
    · have hk : ¬ ky = key := by simpa using h
      have hs : getK ((ky, JV.mk k nn b l f) :: L.drop (i + 1)) key = getK (L.drop (i + 1)) key := by simp [getK, hk]
      simp [g11, hwi, hs]
      exact hnx _ _ (by simp [g1]) (by simp [g4]) (by simp [g5]) (by simp [g9]) (by simp [g10]) (by simp)

theorem get_spec (v : JV) (hlim : v.lim) (key : List UInt8) (s : St) : call G 175 [toV v, .str key] s = some (.tup [toV ((getK v.f key).getD jNull), .bool (getK v.f key).isSome], s) := by
  obtain ⟨k, nn, b, l, f⟩ := v
  obtain ⟨_, hf, _⟩ := hlim
  refine call_out (F := af175) rfl rfl ?_
  simp [af175, af175b, vc, toPs_length, List.getElem?_append]
  have e0 : (⟨s.obs ++ [.cells 46 [.int .i64 k, .int .i64 nn, .str b, .sl .no (toVs l), .sl .no (toPs f)], .cells 46 [.int .i64 0, .int .i64 0, .str [], .sl .nil [], .sl .nil []]], s.bufs⟩ : St) = ⟨(s.obs ++ [.cells 46 [.int .i64 k, .int .i64 nn, .str b, .sl .no (toVs l), .sl .no (toPs f)]]) ++ .cells 46 [.int .i64 0, .int .i64 0, .str [], .sl .nil [], .sl .nil []] :: [], s.bufs⟩ := by simp
  rw [e0]
  refine Out.mono (getLoop (s.obs ++ [.cells 46 [.int .i64 k, .int .i64 nn, .str b, .sl .no (toVs l), .sl .no (toPs f)]]) s.bufs f key hf _ rfl f.length 0 _ [] (by omega) (by omega) (by simp) (by simp) (by simp) (by simp) (by simp) (by simp)) ?_
  rintro e env' s' (⟨q1, rfl, q2, q3, J', rfl⟩ | ⟨x, q1, rfl, q2, q3, J', rfl⟩)
  · simp only [List.drop_zero] at q1
    simp at q2
    simp [JV.f, q1, q2, q3, jNull, vc, toVs, toPs, evStore, fillL, putL, V.one, List.getElem?_append, List.set_append]
  · simp only [List.drop_zero] at q1
    simp at q2
    simp [JV.f, q1, q2, q3, List.getElem?_append]

theorem at_spec (v : JV) (hlim : v.lim) (key : List UInt8) (s : St) : call G 174 [toV v, .str key] s = some (toV (atK v key), s) := by
  have hg := fun s => get_spec v hlim key s
  have e : (getK v.f key).getD jNull = atK v key := rfl
  rw [e] at hg
  generalize atK v key = w at *
  obtain ⟨k, nn, b, l, f⟩ := v
  obtain ⟨k', nn', b', l', f'⟩ := w
  simp only [toV, vc] at hg
  refine call_out (F := af174) rfl rfl ?_
  simp [af174, af174b, vc, hg, evStore, fillL, putL, V.one, List.getElem?_append, List.set_append]

theorem one_spec (v : JV) (hlim : v.lim) (s : St) : call G 177 [toV v] s = some (toV (oneJ v), s) := by
  obtain ⟨k, nn, b, l, f⟩ := v
  obtain ⟨hl, _⟩ := hlim
  refine call_out (F := af177) rfl rfl ?_
  cases l with
  | nil =>
    simp [af177, af177b, vc, toVs, List.getElem?_append]
    refine Out_cond _ _ _ _ _ _ _ rfl (fun _ => ?_) (fun h => by simp at h)
    simp [oneJ, JV.l, jNull, vc, toVs, toPs, evStore, fillL, putL, V.one, List.getElem?_append, List.set_append]
  | cons x l =>
    obtain ⟨k', nn', b', l', f'⟩ := x
    simp [af177, af177b, vc, toVs, toVs_length, List.getElem?_append]
    refine Out_cond _ _ _ _ _ _ _ rfl (fun h => by simp at h; omega) (fun _ => ?_)
    simp [oneJ, JV.l, vc, toVs, toPs, evStore, fillL, putL, V.one, List.getElem?_append, List.set_append]

theorem atoi_spec (b : List UInt8) (hb : b.length ≤ 281474976710656) (s : St) : ∃ n e, call G 242 [.str b] s = some (.tup [.int .i64 n, e], s) ∧ ((e = .nilI ∧ Lib.atoiAll b = .ok n) ∨ (e = .ifc 341 .junk ∧ ∀ m, Lib.atoiAll b ≠ .ok m)) := by
  rw [call_prim G 242 [.str b] s primAtoi rfl]
  simp only [primAtoi, if_pos hb]
  cases h : Lib.atoiAll b with
  | ok v => exact ⟨v, .nilI, rfl, .inl ⟨rfl, rfl⟩⟩
  | _ => exact ⟨_, _, rfl, .inr ⟨rfl, by simp⟩⟩

theorem readId_spec (v : JV) (hb : v.s.length ≤ 281474976710656) (s : St) : call G 178 [toV v] s = some (.int .i64 (idOf v), s) := by
  obtain ⟨k, nn, b, l, f⟩ := v
  have hat := fun s => atoi_spec b hb s
  have e : idOf (.mk k nn b l f) = match Lib.atoiAll b with | .ok n => n | _ => -1 := rfl
  rw [e]
  refine call_out (F := af178) rfl rfl ?_
  obtain ⟨n, r, hc, h⟩ := hat ⟨s.obs ++ [.cells 46 [.int .i64 k, .int .i64 nn, .str b, .sl .no (toVs l), .sl .no (toPs f)]], s.bufs⟩
  rcases h with ⟨rfl, h⟩ | ⟨rfl, h⟩
  · simp [af178, af178b, vc, List.getElem?_append, hc, h]
    refine Out_cond _ _ _ _ _ _ _ rfl (fun h => by simp at h) (fun _ => ?_)
    simp
  · have h' : (match Lib.atoiAll b with | .ok n => n | _ => (-1 : Int)) = -1 := by
      cases h2 : Lib.atoiAll b with
      | ok v => exact absurd h2 (h v)
      | _ => rfl
    rw [h']
    simp [af178, af178b, vc, List.getElem?_append, hc]
    refine Out_cond _ _ _ _ _ _ _ rfl (fun _ => ?_) (fun h => by simp at h)
    simp

structure PErr where
  path : List PStep
  e : Int
deriving DecidableEq
abbrev erV (x : PErr) : V := .agg [.sl .no (pSs x.path), .int .i64 x.e]
def erVs (l : List PErr) : List V := l.map erV
theorem erVs_length (l : List PErr) : (erVs l).length = l.length := by simp [erVs]
theorem erVs_get (l : List PErr) (i : Nat) : (erVs l)[i]? = (l[i]?).map erV := by simp [erVs]
theorem erVs_plain : ∀ l : List PErr, plainL (erVs l) = erVs l
  | [] => rfl
  | x :: l => by rw [show erVs (x :: l) = erV x :: erVs l from rfl, plainL, erVs_plain l]; simp
theorem erVs_und (n b : Nat) : ∀ l : List PErr, undL n b (erVs l) = true
  | [] => rfl
  | x :: l => by rw [show erVs (x :: l) = erV x :: erVs l from rfl, undL, erVs_und n b l]; simp
theorem erVs_app (l : List PErr) (x : PErr) : erVs (l ++ [x]) = erVs l ++ [erV x] := by simp [erVs]
theorem fitsEs (l : List PErr) : fits 2 (erVs l) = true := by cases l <;> simp [erVs, fits]
attribute [local simp] erVs_plain erVs_und

theorem jNull_ok : jNull.ok := by simp [jNull, JV.ok, okVs, okPs]
theorem jNull_lim : jNull.lim := by simp [jNull, JV.lim, limVs, limPs]
theorem getK_mem {f : List (List UInt8 × JV)} {k : List UInt8} {x : JV} (h : getK f k = some x) : ∃ p ∈ f, p.2 = x := by
  unfold getK at h
  cases e : f.find? fun p => decide (p.1 = k) with
  | none => rw [e] at h; simp at h
  | some p => rw [e] at h; simp at h; exact ⟨p, List.mem_of_find?_eq_some e, h⟩
theorem atK_ok {v : JV} (h : v.ok) (k : List UInt8) : (atK v k).ok := by
  unfold atK
  cases e : getK v.f k with
  | none => exact jNull_ok
  | some x =>
    obtain ⟨p, hp, rfl⟩ := getK_mem e
    obtain ⟨_, _, _, _, f⟩ := v
    exact (okPs_mem h.2.2.2.2.2.2 p hp).2
theorem atK_lim {v : JV} (h : v.lim) (k : List UInt8) : (atK v k).lim := by
  unfold atK
  cases e : getK v.f k with
  | none => exact jNull_lim
  | some x =>
    obtain ⟨p, hp, rfl⟩ := getK_mem e
    obtain ⟨_, _, _, _, f⟩ := v
    exact limPs_mem h.2.2.2 p hp

def kCode : List UInt8 := [99, 111, 100, 101]
def kPath : List UInt8 := [112, 97, 116, 104]
def rdErr (x : JV) : PErr := ⟨(pathOf (atK x kPath)).1, (atK x kCode).n⟩

/-- Errors that grow, B the buffers ahead of them. -/
def EG (O J : List AObj) (B : List (Nat × Nat × TypeId)) (acc : List PErr) : St := ⟨O ++ J, B ++ exOf (32, 146) acc⟩
theorem EG_app (O J X : List AObj) (B : List (Nat × Nat × TypeId)) (acc : List PErr) (v : PErr) (hr : acc.length ≤ 1000000000) (o : Own) :
    evApp false 2 (32, 146) (.sl (ownOf B acc) (erVs acc)) (.sl o [erV v]) ⟨(EG O J B acc).obs ++ X, (EG O J B acc).bufs⟩ = some (.sl (ownOf B (acc ++ [v])) (erVs (acc ++ [v])), EG O (J ++ X) B (acc ++ [v])) := by
  have hroom : room = 140737488355328 := by decide
  have h := app_own erVs rfl erVs_length 2 32 146 o (erV v) fitsEs (by simp) acc (by rw [hroom]; omega) ((EG O J B acc).obs ++ X) B
  refine h.trans ?_
  simp [EG, ownOf, exOf, erVs_app]

theorem reLoop (O : List AObj) (B : List (Nat × Nat × TypeId)) (L : List JV) (hL : L.length ≤ 1000000000) (hok : okVs L) (hlim : limVs L) :
    ∀ (m i : Nat) (env : Env) (J : List AObj) (acc : List PErr), L.length - i = m → i ≤ L.length → acc.length = i → env 3 = .sl (ownOf B acc) (erVs acc) → env 9 = .sl .no (toVs L) → env 10 = .int .i64 L.length → env 11 = .int .i64 i →
      Out (evC G (.loop false af176l0) env (EG O J B acc)) (fun e env' s' => e = .exit 0 ∧ env' 3 = .sl (ownOf B (acc ++ (L.drop i).map rdErr)) (erVs (acc ++ (L.drop i).map rdErr)) ∧ ∃ J', s' = EG O J' B (acc ++ (L.drop i).map rdErr)) := by
  intro m
  induction m with
  | zero =>
    intro i env J acc hm hi ha g3 g9 g10 g11
    have : i = L.length := by omega
    subst this
    refine Out_loop G false _ _ af176l0.eq_1 _ _ _ ?_
    simp [g10, g11]
    refine Out_cond _ _ _ _ _ _ _ rfl (fun h => by simp at h) (fun _ => ?_)
    simp [g3]
    exact ⟨J, rfl⟩
  | succ m ihm =>
    intro i env J acc hm hi ha g3 g9 g10 g11
    have hlt : i < L.length := by omega
    have hdr := List.drop_eq_getElem_cons hlt
    have hwi : IntKind.i64.wrap ((i : Int) + 1) = ((i + 1 : Nat) : Int) := by rw [wrap_in (by omega) (by omega)]; omega
    have happ := fun X o => EG_app O J X B acc (rdErr L[i]) (by omega) o
    have hnx := fun env J => ihm (i + 1) env J (acc ++ [rdErr L[i]]) (by omega) (by omega) (by simp [ha])
    have hget : (toVs L)[i]? = some (toV L[i]) := by rw [toVs_get, List.getElem?_eq_getElem hlt]; rfl
    have xok := okVs_mem hok L[i] (List.getElem_mem hlt)
    have xlim := limVs_mem hlim L[i] (List.getElem_mem hlt)
    have h1 := fun s => at_spec L[i] xlim kPath s
    have h2 := fun s => at_spec L[i] xlim kCode s
    have h3 := fun s => pathOf_spec _ (atK_ok xok kPath) (atK_lim xlim kPath) s
    rw [hdr, List.map_cons]
    simp only [rdErr] at happ
    have hrd : rdErr L[i] = ⟨(pathOf (atK L[i] kPath)).1, (atK L[i] kCode).n⟩ := rfl
    rw [← hrd] at happ
    generalize hR : rdErr L[i] = R at *
    generalize pathOf (atK L[i] kPath) = P at *
    generalize atK L[i] kPath = w1 at *
    generalize atK L[i] kCode = w2 at *
    generalize L[i] = p at *
    obtain ⟨k, nn, b, l, f⟩ := p
    obtain ⟨k1, n1, b1, l1, f1⟩ := w1
    obtain ⟨k2, n2, b2, l2, f2⟩ := w2
    subst hrd
    simp only [toV, vc, kPath, kCode, erV, JV.n] at hget h1 h2 h3 happ
    refine Out_loop G false _ _ af176l0.eq_1 _ _ _ ?_
    simp [g10, g11]
    refine Out_cond _ _ _ _ _ _ _ rfl (fun _ => ?_) (fun h => by simp at h; omega)
    simp [g3, g9, g11, hget, h1, h2, h3, evStore, fillL, fillS, putL, V.one, List.getElem?_append_right, List.set_append_right, happ, hwi]
    refine Out.mono (hnx _ _ (by simp [JV.n]) (by simp [g9]) (by simp [g10]) (by simp)) ?_
    rintro e env' s' ⟨rfl, q1, J', rfl⟩
    exact ⟨rfl, by rw [q1]; simp, J', by simp⟩

theorem readErrs_spec (v : JV) (hok : v.ok) (hlim : v.lim) (s : St) : call G 176 [toV v] s = some (.sl .no (erVs (v.l.map rdErr)), s) := by
  obtain ⟨k, nn, b, l, f⟩ := v
  obtain ⟨hl, _, hll, _⟩ := hlim
  obtain ⟨_, _, _, _, _, hokl, _⟩ := hok
  refine call_out (F := af176) rfl rfl ?_
  simp [af176, af176b, vc, toVs_length, List.getElem?_append]
  have e0 : (⟨s.obs ++ [.cells 46 [.int .i64 k, .int .i64 nn, .str b, .sl .no (toVs l), .sl .no (toPs f)]], s.bufs⟩ : St) = EG (s.obs ++ [.cells 46 [.int .i64 k, .int .i64 nn, .str b, .sl .no (toVs l), .sl .no (toPs f)]]) [] s.bufs [] := by simp [EG, exOf]
  rw [e0]
  refine Out.mono (reLoop _ s.bufs l hl hokl hll l.length 0 _ [] [] (by omega) (by omega) rfl (by simp [ownOf, erVs]) (by simp) (by simp) (by simp)) ?_
  rintro e env' s' ⟨rfl, q1, J', rfl⟩
  simp only [List.drop_zero, List.nil_append] at q1
  simp [q1, JV.l, EG]

end Go.Proofs.YtboejpobmpfifaaGreatDoor.Eng

namespace Go.Proofs.YtboejpobmpfifaaGreatDoor.Eng
open Go
set_option linter.unusedSimpArgs false
set_option linter.unusedVariables false

attribute [local simp] evC_reg evC_regD evR_cons evR_nil runR_some regK_some evC_ret evC_skip evC_exit Out_seq Out_blk Out_some seqQ_norm seqQ_ret seqQ_exit blkQ_norm blkQ_ret blkQ_exit loopQ_norm loopQ_ret loopQ_exit
attribute [local simp] stepR evOp put upd_apply X.ev initEnv cells_agg cells_int cells_str cells_bool cells_sl cells_ptr cells_pnil cells_fn cells_map vc_length vc_take vc_plain vc_und toVs_plain toPs_plain toVs_und toPs_und takeN evBin isSh intBin strBin callK resOf packR fin V.plain plainL V.und undL scK kill dstsO dstsL dstsR ite_some ite_pair ite_vbool evUn evLoad evLen V.real finLoop_false quietK_false quietK_same kill_none
attribute [local simp] pSs_plain pSs_und erVs_plain erVs_und
structure PPen where
  id : Int
  path : List PStep
  label : List UInt8
  named : Bool
deriving DecidableEq
abbrev pnV (x : PPen) : V := .agg [.int .i64 x.id, .sl .no (pSs x.path), .str x.label, .bool x.named]
def pnVs (l : List PPen) : List V := l.map pnV
theorem pnVs_length (l : List PPen) : (pnVs l).length = l.length := by simp [pnVs]
theorem pnVs_get (l : List PPen) (i : Nat) : (pnVs l)[i]? = (l[i]?).map pnV := by simp [pnVs]
theorem pnVs_plain : ∀ l : List PPen, plainL (pnVs l) = pnVs l
  | [] => rfl
  | x :: l => by rw [show pnVs (x :: l) = pnV x :: pnVs l from rfl, plainL, pnVs_plain l]; simp
theorem pnVs_und (n b : Nat) : ∀ l : List PPen, undL n b (pnVs l) = true
  | [] => rfl
  | x :: l => by rw [show pnVs (x :: l) = pnV x :: pnVs l from rfl, undL, pnVs_und n b l]; simp
theorem pnVs_app (l : List PPen) (x : PPen) : pnVs (l ++ [x]) = pnVs l ++ [pnV x] := by simp [pnVs]
theorem fitsNs (l : List PPen) : fits 4 (pnVs l) = true := by cases l <;> simp [pnVs, fits]
attribute [local simp] pnVs_plain pnVs_und

def kId : List UInt8 := [105, 100]
def kLabel : List UInt8 := [108, 97, 98, 101, 108]
def rdPen (x : JV) : PPen := ⟨idOf (atK x kId), (pathOf (atK x kPath)).1, (atK x kLabel).s, (getK x.f kLabel).isSome⟩

/-- Who is announced, growing, B the buffers ahead. -/
def NG (O J : List AObj) (B : List (Nat × Nat × TypeId)) (acc : List PPen) : St := ⟨O ++ J, B ++ exOf (56, 148) acc⟩
theorem NG_app (O J X : List AObj) (B : List (Nat × Nat × TypeId)) (acc : List PPen) (v : PPen) (hr : acc.length ≤ 1000000000) (o : Own) :
    evApp false 4 (56, 148) (.sl (ownOf B acc) (pnVs acc)) (.sl o [pnV v]) ⟨(NG O J B acc).obs ++ X, (NG O J B acc).bufs⟩ = some (.sl (ownOf B (acc ++ [v])) (pnVs (acc ++ [v])), NG O (J ++ X) B (acc ++ [v])) := by
  have hroom : room = 140737488355328 := by decide
  have h := app_own pnVs rfl pnVs_length 4 56 148 o (pnV v) fitsNs (by simp) acc (by rw [hroom]; omega) ((NG O J B acc).obs ++ X) B
  refine h.trans ?_
  simp [NG, ownOf, exOf, pnVs_app]

theorem rpLoop (O : List AObj) (B : List (Nat × Nat × TypeId)) (L : List JV) (hL : L.length ≤ 1000000000) (hok : okVs L) (hlim : limVs L) (hs : ∀ x ∈ L, (atK x kId).s.length ≤ 281474976710656) :
    ∀ (m i : Nat) (env : Env) (J : List AObj) (acc : List PPen), L.length - i = m → i ≤ L.length → acc.length = i → env 3 = .sl (ownOf B acc) (pnVs acc) → env 11 = .sl .no (toVs L) → env 12 = .int .i64 L.length → env 13 = .int .i64 i →
      Out (evC G (.loop false af173l0) env (NG O J B acc)) (fun e env' s' => e = .exit 0 ∧ env' 3 = .sl (ownOf B (acc ++ (L.drop i).map rdPen)) (pnVs (acc ++ (L.drop i).map rdPen)) ∧ ∃ J', s' = NG O J' B (acc ++ (L.drop i).map rdPen)) := by
  intro m
  induction m with
  | zero =>
    intro i env J acc hm hi ha g3 g11 g12 g13
    have : i = L.length := by omega
    subst this
    refine Out_loop G false _ _ af173l0.eq_1 _ _ _ ?_
    simp [g12, g13]
    refine Out_cond _ _ _ _ _ _ _ rfl (fun h => by simp at h) (fun _ => ?_)
    simp [g3]
    exact ⟨J, rfl⟩
  | succ m ihm =>
    intro i env J acc hm hi ha g3 g11 g12 g13
    have hlt : i < L.length := by omega
    have hdr := List.drop_eq_getElem_cons hlt
    have hwi : IntKind.i64.wrap ((i : Int) + 1) = ((i + 1 : Nat) : Int) := by rw [wrap_in (by omega) (by omega)]; omega
    have happ := fun X o => NG_app O J X B acc (rdPen L[i]) (by omega) o
    have hnx := fun env J => ihm (i + 1) env J (acc ++ [rdPen L[i]]) (by omega) (by omega) (by simp [ha])
    have hget : (toVs L)[i]? = some (toV L[i]) := by rw [toVs_get, List.getElem?_eq_getElem hlt]; rfl
    have xok := okVs_mem hok L[i] (List.getElem_mem hlt)
    have xlim := limVs_mem hlim L[i] (List.getElem_mem hlt)
    have h1 := fun s => at_spec L[i] xlim kPath s
    have h2 := fun s => at_spec L[i] xlim kId s
    have h3 := fun s => pathOf_spec _ (atK_ok xok kPath) (atK_lim xlim kPath) s
    have h4 := fun s => get_spec L[i] xlim kLabel s
    have h5 := fun s => readId_spec (atK L[i] kId) (hs _ (List.getElem_mem hlt)) s
    rw [hdr, List.map_cons]
    have hla : (getK L[i].f kLabel).getD jNull = atK L[i] kLabel := rfl
    rw [hla] at h4
    have hR : rdPen L[i] = ⟨idOf (atK L[i] kId), (pathOf (atK L[i] kPath)).1, (atK L[i] kLabel).s, (getK L[i].f kLabel).isSome⟩ := rfl
    have happ' := happ
    rw [hR] at happ'
    generalize rdPen L[i] = R at *
    generalize pathOf (atK L[i] kPath) = P at *
    generalize idOf (atK L[i] kId) = I at *
    generalize atK L[i] kPath = w1 at *
    generalize atK L[i] kId = w2 at *
    generalize atK L[i] kLabel = w3 at *
    generalize (getK L[i].f kLabel).isSome = T at *
    generalize L[i] = p at *
    obtain ⟨k, nn, b, l, f⟩ := p
    obtain ⟨k1, n1, b1, l1, f1⟩ := w1
    obtain ⟨k2, n2, b2, l2, f2⟩ := w2
    obtain ⟨k3, n3, b3, l3, f3⟩ := w3
    subst hR
    simp only [toV, vc, kPath, kId, kLabel, pnV, JV.s] at hget h1 h2 h3 h4 h5 happ
    refine Out_loop G false _ _ af173l0.eq_1 _ _ _ ?_
    simp [g12, g13]
    refine Out_cond _ _ _ _ _ _ _ rfl (fun _ => ?_) (fun h => by simp at h; omega)
    simp [g3, g11, g13, hget, h1, h2, h3, h4, h5, evStore, fillL, fillS, putL, V.one, List.getElem?_append_right, List.set_append_right, happ, hwi]
    refine Out.mono (hnx _ _ (by simp [JV.s]) (by simp [g11]) (by simp [g12]) (by simp)) ?_
    rintro e env' s' ⟨rfl, q1, J', rfl⟩
    exact ⟨rfl, by rw [q1]; simp, J', by simp⟩

theorem readPending_spec (v : JV) (hok : v.ok) (hlim : v.lim) (hs : ∀ x ∈ v.l, (atK x kId).s.length ≤ 281474976710656) (s : St) : call G 173 [toV v] s = some (.sl .no (pnVs (v.l.map rdPen)), s) := by
  obtain ⟨k, nn, b, l, f⟩ := v
  obtain ⟨hl, _, hll, _⟩ := hlim
  obtain ⟨_, _, _, _, _, hokl, _⟩ := hok
  refine call_out (F := af173) rfl rfl ?_
  simp [af173, af173b, vc, toVs_length, List.getElem?_append]
  have e0 : (⟨s.obs ++ [.cells 46 [.int .i64 k, .int .i64 nn, .str b, .sl .no (toVs l), .sl .no (toPs f)]], s.bufs⟩ : St) = NG (s.obs ++ [.cells 46 [.int .i64 k, .int .i64 nn, .str b, .sl .no (toVs l), .sl .no (toPs f)]]) [] s.bufs [] := by simp [NG, exOf]
  rw [e0]
  refine Out.mono (rpLoop _ s.bufs l hl hokl hll hs l.length 0 _ [] [] (by omega) (by omega) rfl (by simp [ownOf, pnVs]) (by simp) (by simp) (by simp)) ?_
  rintro e env' s' ⟨rfl, q1, J', rfl⟩
  simp only [List.drop_zero, List.nil_append] at q1
  simp [q1, JV.l, NG]

end Go.Proofs.YtboejpobmpfifaaGreatDoor.Eng

namespace Go.Proofs.YtboejpobmpfifaaGreatDoor.Eng
open Go
set_option linter.unusedSimpArgs false
set_option linter.unusedVariables false

attribute [local simp] evC_reg evC_regD evR_cons evR_nil runR_some regK_some evC_ret evC_skip evC_exit Out_seq Out_blk Out_some seqQ_norm seqQ_ret seqQ_exit blkQ_norm blkQ_ret blkQ_exit loopQ_norm loopQ_ret loopQ_exit
attribute [local simp] stepR evOp put upd_apply X.ev initEnv cells_agg cells_int cells_str cells_bool cells_sl cells_ptr cells_pnil cells_fn cells_map vc_length vc_take vc_plain vc_und toVs_plain toPs_plain toVs_und toPs_und takeN evBin isSh intBin strBin callK resOf packR fin V.plain plainL V.und undL scK kill dstsO dstsL dstsR ite_some ite_pair ite_vbool evUn evLoad evLen V.real finLoop_false quietK_false quietK_same kill_none
attribute [local simp] pSs_plain pSs_und erVs_plain erVs_und pnVs_plain pnVs_und
theorem str_spec (b : List UInt8) (s : St) : call G 231 [.str b] s = some (toV (.mk 3 0 b [] []), s) := by
  refine call_out (F := af231) rfl rfl ?_
  simp [af231, af231b, vc, toVs, toPs, evStore, fillL, putL, V.one, List.getElem?_append, List.set_append]

theorem flag_spec (b : Bool) (s : St) : call G 152 [.bool b] s = some (toV (.mk 1 (if b = true then 1 else 0) [] [] []), s) := by
  refine call_out (F := af152) rfl rfl ?_
  cases b with
  | true =>
    simp [af152, af152b, evStore, fillL, putL, V.one, List.getElem?_append, List.set_append]
    refine Out_cond _ _ _ _ _ _ _ rfl (fun _ => ?_) (fun h => by simp at h)
    simp [vc, toVs, toPs, evStore, fillL, putL, V.one, List.getElem?_append, List.set_append]
  | false =>
    simp [af152, af152b, evStore, fillL, putL, V.one, List.getElem?_append, List.set_append]
    refine Out_cond _ _ _ _ _ _ _ rfl (fun h => by simp at h) (fun _ => ?_)
    simp [vc, toVs, toPs, evStore, fillL, putL, V.one, List.getElem?_append, List.set_append]

theorem number_spec' (n : Int) (s : St) : call G 91 [.int .i64 n] s = some (.bool (decide (0 ≤ n ∧ n ≤ 9007199254740991)), s) := by
  refine call_out (F := af91) rfl rfl ?_
  by_cases h0 : 0 ≤ n <;> by_cases h1 : n ≤ 9007199254740991 <;> simp [af91, af91b, h0, h1]

theorem fmt_spec (n : Int) (h0 : -9223372036854775808 ≤ n) (h1 : n ≤ 9223372036854775807) (s : St) : call G 276 [.int .i64 n, .int .i64 10] s = some (.str (Lib.itoa n), s) := by
  rw [call_prim G 276 [.int .i64 n, .int .i64 10] s primFmt rfl]
  simp [primFmt, h0, h1]

theorem itoa_spec (n : Int) (h0 : -9223372036854775808 ≤ n) (h1 : n ≤ 9223372036854775807) (s : St) : call G 232 [.int .i64 n] s = some (.str (Lib.itoa n), s) := by
  have hf := fun s => fmt_spec n h0 h1 s
  have hi : ∀ s, call G 281 [.int .i64 n] s = some (.str (Lib.itoa n), s) := by
    intro s
    refine call_out (F := af281) rfl rfl ?_
    simp [af281, af281b, hf, wrap_in h0 h1]
  refine call_out (F := af232) rfl rfl ?_
  simp [af232, af232b, hi]

theorem id_spec' (n : Int) (h0 : -9223372036854775808 ≤ n) (h1 : n ≤ 9223372036854775807) (s : St) : call G 156 [.int .i64 n] s = some (toV (.mk 3 0 (Lib.itoa n) [] []), s) := by
  have hi := fun s => itoa_spec n h0 h1 s
  have hs := fun s => str_spec (Lib.itoa n) s
  simp only [toV, vc, toVs, toPs] at hs
  refine call_out (F := af156) rfl rfl ?_
  simp [af156, af156b, hi, hs, vc, toVs, toPs, evStore, fillL, putL, V.one, List.getElem?_append, List.set_append]

/-- list: its value keeps the slice as it is (so that an empty one may grow). -/
theorem list_spec (o : Own) (xs : List V) (s : St) : call G 157 [.sl o xs] s = some (.agg [.int .i64 4, .int .i64 0, .str [], .sl o xs, .sl .nil []], s) := by
  rw [call_prim G 157 [.sl o xs] s primList rfl]
  rfl

/-- A key and its value, left out without ok. -/
structure KV where
  key : List UInt8
  v : JV
  ok : Bool
abbrev kvV (x : KV) : V := .agg (.str x.key :: (vc x.v ++ [.bool x.ok]))
def kvVs (l : List KV) : List V := l.map kvV
theorem kvVs_length (l : List KV) : (kvVs l).length = l.length := by simp [kvVs]
theorem kvVs_get (l : List KV) (i : Nat) : (kvVs l)[i]? = (l[i]?).map kvV := by simp [kvVs]
def objOf : List KV → List (List UInt8 × JV)
  | [] => []
  | x :: l => if x.ok = true then (x.key, x.v) :: objOf l else objOf l

theorem objLoop (A : List AObj) (B : List (Nat × Nat × TypeId)) (L : List KV) (hL : L.length ≤ 1000000000) :
    ∀ (m i : Nat) (env : Env) (J : List AObj) (acc : List (List UInt8 × JV)), L.length - i = m → i ≤ L.length → acc.length ≤ i → env 3 = .ptr A.length 0 → env 7 = .sl .no (kvVs L) → env 8 = .int .i64 L.length → env 9 = .int .i64 i →
      Out (evC G (.loop false af154l0) env (CP A J B 5 0 [] (.sl .nil []) acc)) (fun e env' s' => e = .exit 0 ∧ env' 2 = env 2 ∧ env' 3 = env 3 ∧ ∃ J', s' = CP A J' B 5 0 [] (.sl .nil []) (acc ++ objOf (L.drop i))) := by
  intro m
  induction m with
  | zero =>
    intro i env J acc hm hi ha g3 g7 g8 g9
    have : i = L.length := by omega
    subst this
    refine Out_loop G false _ _ af154l0.eq_1 _ _ _ ?_
    simp [g8, g9]
    refine Out_cond _ _ _ _ _ _ _ rfl (fun h => by simp at h) (fun _ => ?_)
    simp [objOf]
    exact ⟨J, rfl⟩
  | succ m ihm =>
    intro i env J acc hm hi ha g3 g7 g8 g9
    have hlt : i < L.length := by omega
    have hdr := List.drop_eq_getElem_cons hlt
    have hwi : IntKind.i64.wrap ((i : Int) + 1) = ((i + 1 : Nat) : Int) := by rw [wrap_in (by omega) (by omega)]; omega
    have hget : (kvVs L)[i]? = some (kvV L[i]) := by rw [kvVs_get, List.getElem?_eq_getElem hlt]; rfl
    have hout := fun X => CP_out A J X B 5 0 [] (.sl .nil []) acc
    have happ := fun X o => CP_app A J X B 5 0 [] (.sl .nil []) acc (L[i].key, L[i].v) (by omega) o
    have hset := fun X => CP_set A J X B 5 0 [] (.sl .nil []) acc (L[i].key, L[i].v)
    have hnx := fun env J acc => ihm (i + 1) env J acc (by omega) (by omega)
    rw [hdr]
    generalize L[i] = p at *
    obtain ⟨ky, ⟨k, nn, b, l, f⟩, ok⟩ := p
    simp only [kvV, pv, vc, List.cons_append, List.nil_append] at hget happ hset
    refine Out_loop G false _ _ af154l0.eq_1 _ _ _ ?_
    simp [g8, g9]
    refine Out_cond _ _ _ _ _ _ _ rfl (fun _ => ?_) (fun h => by simp at h; omega)
    simp [g3, g7, g8, g9, hget, evStore, fillL, putL, V.one, List.getElem?_append_right, List.set_append_right]
    cases ok with
    | true =>
      refine Out_cond _ _ _ _ _ _ _ rfl (fun _ => ?_) (fun h => by simp at h)
      simp [g3, g9, evStore, fillL, putL, V.one, List.getElem?_append_right, List.set_append_right, ↓hout, fillS, happ, hwi]
      rw [hset]
      refine Out.mono (hnx _ _ _ (by simp; omega) (by simp [g3]) (by simp [g7]) (by simp [g8]) (by simp)) ?_
      rintro e env' s' ⟨rfl, q1, q2, J', rfl⟩
      exact ⟨rfl, by simpa using q1, by simpa [g3] using q2, J', by simp [objOf]⟩
    | false =>
      refine Out_cond _ _ _ _ _ _ _ rfl (fun h => by simp at h) (fun _ => ?_)
      simp [g3, g9, hwi]
      have e0 : ∀ X, (⟨(CP A J B 5 0 [] (.sl .nil []) acc).obs ++ X, (CP A J B 5 0 [] (.sl .nil []) acc).bufs⟩ : St) = CP A (J ++ X) B 5 0 [] (.sl .nil []) acc := by intro X; simp [CP]
      rw [e0]
      refine Out.mono (hnx _ _ _ (by omega) (by simp [g3]) (by simp [g7]) (by simp [g8]) (by simp)) ?_
      rintro e env' s' ⟨rfl, q1, q2, J', rfl⟩
      exact ⟨rfl, by simpa using q1, by simpa [g3] using q2, J', by simp [objOf]⟩

theorem object_spec (L : List KV) (hL : L.length ≤ 1000000000) (s : St) : call G 154 [.sl .no (kvVs L)] s = some (toV (.mk 5 0 [] [] (objOf L)), s) := by
  refine call_out (F := af154) rfl rfl ?_
  simp [af154, af154b, kvVs_length, fillL, evStore, putL, V.one, List.getElem?_append, List.set_append]
  obtain ⟨A, hA⟩ : ∃ A, s.obs ++ [.cells 46 [.int .i64 0, .int .i64 0, .str [], .sl .nil [], .sl .nil []]] = A := ⟨_, rfl⟩
  have hAl : A.length = s.obs.length + 1 := by rw [← hA]; simp
  have e0 : (⟨s.obs ++ [.cells 46 [.int .i64 0, .int .i64 0, .str [], .sl .nil [], .sl .nil []], .cells 46 [.int .i64 5, .int .i64 0, .str [], .sl .nil [], .sl .nil []]], s.bufs⟩ : St) = CP A [] s.bufs 5 0 [] (.sl .nil []) [] := by
    rw [← hA]; simp [CP, ownOf, exOf, toPs]
  rw [e0]
  refine Out.mono (objLoop A s.bufs L hL L.length 0 _ [] [] (by omega) (by omega) (by simp) (by simp [hAl]) (by simp) (by simp) (by simp)) ?_
  rintro e env s' ⟨rfl, q1, q2, J, rfl⟩
  simp at q1 q2
  simp only [List.nil_append, List.drop_zero]
  have c3 : (CP A J s.bufs 5 0 [] (.sl .nil []) (objOf L)).obs[s.obs.length + 1]? = some (.cells 46 [.int .i64 5, .int .i64 0, .str [], .sl .nil [], .sl (ownOf s.bufs (objOf L)) (toPs (objOf L))]) := by
    rw [← hAl]; simp [CP]
  have c2 : (CP A J s.bufs 5 0 [] (.sl .nil []) (objOf L)).obs[s.obs.length]? = some (.cells 46 [.int .i64 0, .int .i64 0, .str [], .sl .nil [], .sl .nil []]) := by
    rw [← hA]; simp [CP]
  have c4 : ∀ X, ((CP A J s.bufs 5 0 [] (.sl .nil []) (objOf L)).obs.set s.obs.length X)[s.obs.length]? = some X := by
    intro X; rw [← hA]; simp [CP]
  have c5 : ∀ X, ((CP A J s.bufs 5 0 [] (.sl .nil []) (objOf L)).obs.set s.obs.length X).take s.obs.length = s.obs := by
    intro X; rw [← hA]; simp [CP, List.set_append]
  have c6 : (CP A J s.bufs 5 0 [] (.sl .nil []) (objOf L)).bufs.take s.bufs.length = s.bufs := by simp [CP]
  simp [q1, q2, c3, c2, c4, c5, c6, evStore, putL, V.one, vc, toVs]

/-- A path's value, as the program has it: Null of one that is not right. -/
def pathW (p : List PStep) : JV := if pathR p = true then pathJ p else jNull
def errJ (e : PErr) : JV := .mk 5 0 [] [] [(kCode, .mk 2 e.e [] [] []), (kPath, pathW e.path)]
def PErr.lim (e : PErr) : Prop := e.path.length ≤ 1000000000 ∧ ∀ x ∈ e.path, x.lim
theorem pathW_spec (l : List PStep) (hl : l.length ≤ 1000000000) (hx : ∀ x ∈ l, x.lim) (s : St) : call G 230 [.sl .no (pSs l)] s = some (.tup [toV (pathW l), .int .i64 (if pathR l = true then 0 else 1)], s) := by
  rw [pathValue_spec l hl hx s]
  by_cases h : pathR l = true <;> simp [h, pathW, jNull, vc, toVs, toPs]

theorem ersLoop (A : List AObj) (B : List (Nat × Nat × TypeId)) (L : List PErr) (hL : L.length ≤ 1000000000) (hlim : ∀ e ∈ L, e.lim) :
    ∀ (m i : Nat) (env : Env) (J : List AObj), L.length - i = m → i ≤ L.length → env 3 = .ptr A.length 0 → env 9 = .sl .no (erVs L) → env 10 = .int .i64 L.length → env 11 = .int .i64 i →
      Out (evC G (.loop false af155l0) env (CL A J B 4 0 [] ((L.take i).map errJ))) (fun e env' s' => e = .exit 0 ∧ env' 2 = env 2 ∧ env' 3 = env 3 ∧ ∃ J', s' = CL A J' B 4 0 [] (L.map errJ)) := by
  intro m
  induction m with
  | zero =>
    intro i env J hm hi g3 g9 g10 g11
    have : i = L.length := by omega
    subst this
    refine Out_loop G false _ _ af155l0.eq_1 _ _ _ ?_
    simp [g10, g11]
    refine Out_cond _ _ _ _ _ _ _ rfl (fun h => by simp at h) (fun _ => ?_)
    simp
    exact ⟨J, rfl⟩
  | succ m ihm =>
    intro i env J hm hi g3 g9 g10 g11
    have hlt : i < L.length := by omega
    have hwi : IntKind.i64.wrap ((i : Int) + 1) = ((i + 1 : Nat) : Int) := by rw [wrap_in (by omega) (by omega)]; omega
    have htk : (L.take (i + 1)).map errJ = (L.take i).map errJ ++ [errJ L[i]] := by rw [List.take_succ_eq_append_getElem hlt, List.map_append]; rfl
    have hle : ((L.take i).map errJ).length ≤ 1000000000 := by rw [List.length_map, List.length_take]; omega
    have hout := fun X => CL_out A J X B 4 0 [] ((L.take i).map errJ)
    have happ := fun X o => CL_app A J X B 4 0 [] ((L.take i).map errJ) (errJ L[i]) hle o
    have hset := fun X => CL_set A J X B 4 0 [] ((L.take i).map errJ) (errJ L[i])
    have hnx := fun env J => ihm (i + 1) env J (by omega) (by omega)
    rw [htk] at hnx
    have hget : (erVs L)[i]? = some (erV L[i]) := by rw [erVs_get, List.getElem?_eq_getElem hlt]; rfl
    obtain ⟨l1, l2⟩ := hlim L[i] (List.getElem_mem hlt)
    have hp := fun s => pathW_spec L[i].path l1 l2 s
    have hob := fun s => object_spec [⟨kCode, .mk 2 L[i].e [] [] [], true⟩, ⟨kPath, pathW L[i].path, true⟩] (by simp) s
    have hE : errJ L[i] = .mk 5 0 [] [] (objOf [⟨kCode, .mk 2 L[i].e [] [] [], true⟩, ⟨kPath, pathW L[i].path, true⟩]) := by simp [errJ, objOf]
    rw [← hE] at hob
    have hEv : toV (errJ L[i]) = .agg (vc (errJ L[i])) := rfl
    generalize errJ L[i] = E at *
    generalize (L.take i).map errJ = acc at *
    generalize pathW L[i].path = w at *
    generalize (if pathR L[i].path = true then (0 : Int) else 1) = q at *
    generalize L[i] = p at *
    obtain ⟨pa, ec⟩ := p
    obtain ⟨k, nn, b, l, f⟩ := w
    obtain ⟨k2, n2, b2, l2', f2⟩ := E
    simp only [erV, toV, vc, toVs, toPs, kvVs, kvV, List.map_cons, List.map_nil, List.cons_append, List.nil_append, kCode, kPath] at hget hp hob happ hset
    refine Out_loop G false _ _ af155l0.eq_1 _ _ _ ?_
    simp [g10, g11]
    refine Out_cond _ _ _ _ _ _ _ rfl (fun _ => ?_) (fun h => by simp at h; omega)
    simp [g3, g9, g11, hget, hp, evStore, fillL, putL, V.one, List.getElem?_append_right, List.set_append_right, ↓hout, hob, fillS, happ, hwi]
    rw [hset]
    refine Out.mono (hnx _ _ (by simp [g3]) (by simp [g9]) (by simp [g10]) (by simp)) ?_
    rintro e env' s' ⟨rfl, q1, q2, J', rfl⟩
    exact ⟨rfl, by simpa using q1, by simpa [g3] using q2, J', rfl⟩

theorem errs_spec (L : List PErr) (hL : L.length ≤ 1000000000) (hlim : ∀ e ∈ L, e.lim) (s : St) : call G 155 [.sl .no (erVs L)] s = some (toV (.mk 4 0 [] (L.map errJ) []), s) := by
  have hli := fun s => list_spec .nil [] s
  refine call_out (F := af155) rfl rfl ?_
  simp [af155, af155b, hli, erVs_length, fillL, evStore, putL, V.one, List.getElem?_append, List.set_append]
  obtain ⟨A, hA⟩ : ∃ A, s.obs ++ [.cells 46 [.int .i64 0, .int .i64 0, .str [], .sl .nil [], .sl .nil []]] = A := ⟨_, rfl⟩
  have hAl : A.length = s.obs.length + 1 := by rw [← hA]; simp
  have e0 : (⟨s.obs ++ [.cells 46 [.int .i64 0, .int .i64 0, .str [], .sl .nil [], .sl .nil []], .cells 46 [.int .i64 4, .int .i64 0, .str [], .sl .nil [], .sl .nil []]], s.bufs⟩ : St) = CL A [] s.bufs 4 0 [] ((L.take 0).map errJ) := by
    rw [← hA]; simp [CL, ownOf, exOf, toVs]
  rw [e0]
  refine Out.mono (ersLoop A s.bufs L hL hlim L.length 0 _ [] (by omega) (by omega) (by simp [hAl]) (by simp) (by simp) (by simp)) ?_
  rintro e env s' ⟨rfl, q1, q2, J, rfl⟩
  simp at q1 q2
  have c3 : (CL A J s.bufs 4 0 [] (L.map errJ)).obs[s.obs.length + 1]? = some (.cells 46 [.int .i64 4, .int .i64 0, .str [], .sl (ownOf s.bufs (L.map errJ)) (toVs (L.map errJ)), .sl .nil []]) := by
    rw [← hAl]; simp [CL]
  have c2 : (CL A J s.bufs 4 0 [] (L.map errJ)).obs[s.obs.length]? = some (.cells 46 [.int .i64 0, .int .i64 0, .str [], .sl .nil [], .sl .nil []]) := by
    rw [← hA]; simp [CL]
  have c4 : ∀ X, ((CL A J s.bufs 4 0 [] (L.map errJ)).obs.set s.obs.length X)[s.obs.length]? = some X := by
    intro X; rw [← hA]; simp [CL]
  have c5 : ∀ X, ((CL A J s.bufs 4 0 [] (L.map errJ)).obs.set s.obs.length X).take s.obs.length = s.obs := by
    intro X; rw [← hA]; simp [CL, List.set_append]
  have c6 : (CL A J s.bufs 4 0 [] (L.map errJ)).bufs.take s.bufs.length = s.bufs := by simp [CL]
  simp [q1, q2, c3, c2, c4, c5, c6, evStore, putL, V.one, vc, toPs]

def strJ (s : List UInt8) : JV := .mk 3 0 s [] []
def idJ (n : Int) : JV := .mk 3 0 (Lib.itoa n) [] []
def penJ (x : PPen) : JV := .mk 5 0 [] [] ([(kId, idJ x.id), (kPath, pathW x.path)] ++ if x.named = true then [(kLabel, strJ x.label)] else [])
def PPen.lim (x : PPen) : Prop := (-9223372036854775808 ≤ x.id ∧ x.id ≤ 9223372036854775807) ∧ x.path.length ≤ 1000000000 ∧ (∀ s ∈ x.path, s.lim) ∧ x.label.length ≤ 9223372036854775807

theorem pnsLoop (A : List AObj) (B : List (Nat × Nat × TypeId)) (L : List PPen) (hL : L.length ≤ 1000000000) (hlim : ∀ e ∈ L, e.lim) :
    ∀ (m i : Nat) (env : Env) (J : List AObj), L.length - i = m → i ≤ L.length → env 3 = .ptr A.length 0 → env 9 = .sl .no (pnVs L) → env 10 = .int .i64 L.length → env 11 = .int .i64 i →
      Out (evC G (.loop false af153l0) env (CL A J B 4 0 [] ((L.take i).map penJ))) (fun e env' s' => e = .exit 0 ∧ env' 2 = env 2 ∧ env' 3 = env 3 ∧ ∃ J', s' = CL A J' B 4 0 [] (L.map penJ)) := by
  intro m
  induction m with
  | zero =>
    intro i env J hm hi g3 g9 g10 g11
    have : i = L.length := by omega
    subst this
    refine Out_loop G false _ _ af153l0.eq_1 _ _ _ ?_
    simp [g10, g11]
    refine Out_cond _ _ _ _ _ _ _ rfl (fun h => by simp at h) (fun _ => ?_)
    simp
    exact ⟨J, rfl⟩
  | succ m ihm =>
    intro i env J hm hi g3 g9 g10 g11
    have hlt : i < L.length := by omega
    have hwi : IntKind.i64.wrap ((i : Int) + 1) = ((i + 1 : Nat) : Int) := by rw [wrap_in (by omega) (by omega)]; omega
    have htk : (L.take (i + 1)).map penJ = (L.take i).map penJ ++ [penJ L[i]] := by rw [List.take_succ_eq_append_getElem hlt, List.map_append]; rfl
    have hle : ((L.take i).map penJ).length ≤ 1000000000 := by rw [List.length_map, List.length_take]; omega
    have hout := fun X => CL_out A J X B 4 0 [] ((L.take i).map penJ)
    have happ := fun X o => CL_app A J X B 4 0 [] ((L.take i).map penJ) (penJ L[i]) hle o
    have hset := fun X => CL_set A J X B 4 0 [] ((L.take i).map penJ) (penJ L[i])
    have hnx := fun env J => ihm (i + 1) env J (by omega) (by omega)
    rw [htk] at hnx
    have hget : (pnVs L)[i]? = some (pnV L[i]) := by rw [pnVs_get, List.getElem?_eq_getElem hlt]; rfl
    obtain ⟨l0, l1, l2, _⟩ := hlim L[i] (List.getElem_mem hlt)
    have hp := fun s => pathW_spec L[i].path l1 l2 s
    have hid := fun s => id_spec' L[i].id l0.1 l0.2 s
    have hst := fun s => str_spec L[i].label s
    have hob := fun s => object_spec [⟨kId, idJ L[i].id, true⟩, ⟨kPath, pathW L[i].path, true⟩, ⟨kLabel, strJ L[i].label, L[i].named⟩] (by simp) s
    have hE : penJ L[i] = .mk 5 0 [] [] (objOf [⟨kId, idJ L[i].id, true⟩, ⟨kPath, pathW L[i].path, true⟩, ⟨kLabel, strJ L[i].label, L[i].named⟩]) := by
      cases h : L[i].named <;> simp [penJ, objOf, h]
    rw [← hE] at hob
    have hEv : toV (penJ L[i]) = .agg (vc (penJ L[i])) := rfl
    generalize penJ L[i] = E at *
    generalize (L.take i).map penJ = acc at *
    generalize pathW L[i].path = w at *
    generalize (if pathR L[i].path = true then (0 : Int) else 1) = q at *
    simp only [idJ, strJ] at hob
    generalize Lib.itoa L[i].id = it at *
    generalize L[i] = p at *
    obtain ⟨pid, pa, la, na⟩ := p
    obtain ⟨k, nn, b, l, f⟩ := w
    obtain ⟨k2, n2, b2, l2', f2⟩ := E
    simp only [pnV, toV, vc, toVs, toPs, kvVs, kvV, List.map_cons, List.map_nil, List.cons_append, List.nil_append, kId, kPath, kLabel] at hget hp hid hst hob happ hset
    refine Out_loop G false _ _ af153l0.eq_1 _ _ _ ?_
    simp [g10, g11]
    refine Out_cond _ _ _ _ _ _ _ rfl (fun _ => ?_) (fun h => by simp at h; omega)
    simp [g3, g9, g11, hget, hp, hid, hst, evStore, fillL, putL, V.one, List.getElem?_append_right, List.set_append_right, ↓hout, hob, fillS, happ, hwi]
    rw [hset]
    refine Out.mono (hnx _ _ (by simp [g3]) (by simp [g9]) (by simp [g10]) (by simp)) ?_
    rintro e env' s' ⟨rfl, q1, q2, J', rfl⟩
    exact ⟨rfl, by simpa using q1, by simpa [g3] using q2, J', rfl⟩

theorem pending_spec (L : List PPen) (hL : L.length ≤ 1000000000) (hlim : ∀ e ∈ L, e.lim) (s : St) : call G 153 [.sl .no (pnVs L)] s = some (toV (.mk 4 0 [] (L.map penJ) []), s) := by
  have hli := fun s => list_spec .nil [] s
  refine call_out (F := af153) rfl rfl ?_
  simp [af153, af153b, hli, pnVs_length, fillL, evStore, putL, V.one, List.getElem?_append, List.set_append]
  obtain ⟨A, hA⟩ : ∃ A, s.obs ++ [.cells 46 [.int .i64 0, .int .i64 0, .str [], .sl .nil [], .sl .nil []]] = A := ⟨_, rfl⟩
  have hAl : A.length = s.obs.length + 1 := by rw [← hA]; simp
  have e0 : (⟨s.obs ++ [.cells 46 [.int .i64 0, .int .i64 0, .str [], .sl .nil [], .sl .nil []], .cells 46 [.int .i64 4, .int .i64 0, .str [], .sl .nil [], .sl .nil []]], s.bufs⟩ : St) = CL A [] s.bufs 4 0 [] ((L.take 0).map penJ) := by
    rw [← hA]; simp [CL, ownOf, exOf, toVs]
  rw [e0]
  refine Out.mono (pnsLoop A s.bufs L hL hlim L.length 0 _ [] (by omega) (by omega) (by simp [hAl]) (by simp) (by simp) (by simp)) ?_
  rintro e env s' ⟨rfl, q1, q2, J, rfl⟩
  simp at q1 q2
  have c3 : (CL A J s.bufs 4 0 [] (L.map penJ)).obs[s.obs.length + 1]? = some (.cells 46 [.int .i64 4, .int .i64 0, .str [], .sl (ownOf s.bufs (L.map penJ)) (toVs (L.map penJ)), .sl .nil []]) := by
    rw [← hAl]; simp [CL]
  have c2 : (CL A J s.bufs 4 0 [] (L.map penJ)).obs[s.obs.length]? = some (.cells 46 [.int .i64 0, .int .i64 0, .str [], .sl .nil [], .sl .nil []]) := by
    rw [← hA]; simp [CL]
  have c4 : ∀ X, ((CL A J s.bufs 4 0 [] (L.map penJ)).obs.set s.obs.length X)[s.obs.length]? = some X := by
    intro X; rw [← hA]; simp [CL]
  have c5 : ∀ X, ((CL A J s.bufs 4 0 [] (L.map penJ)).obs.set s.obs.length X).take s.obs.length = s.obs := by
    intro X; rw [← hA]; simp [CL, List.set_append]
  have c6 : (CL A J s.bufs 4 0 [] (L.map penJ)).bufs.take s.bufs.length = s.bufs := by simp [CL]
  simp [q1, q2, c3, c2, c4, c5, c6, evStore, putL, V.one, vc, toPs]

end Go.Proofs.YtboejpobmpfifaaGreatDoor.Eng
