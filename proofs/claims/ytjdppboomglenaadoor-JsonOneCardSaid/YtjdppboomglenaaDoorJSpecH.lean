/-
  The statement JsonOne, over values. No condition.
-/
import Derived.Test.YtjdppboomglenaaDoorJSpecG
namespace Go.Proofs.YtjdppboomglenaaDoor.Eng
open Go
set_option linter.unusedSimpArgs false
set_option linter.unusedVariables false

attribute [local simp] evC_reg evC_regD evR_cons evR_nil runR_some regK_some evC_ret evC_skip evC_exit Out_seq Out_blk Out_some seqQ_norm seqQ_ret seqQ_exit blkQ_norm blkQ_ret blkQ_exit loopQ_norm loopQ_ret loopQ_exit
attribute [local simp] stepR evOp put upd_apply X.ev initEnv cells_agg cells_int cells_str cells_bool cells_sl cells_ptr cells_pnil cells_fn cells_map vc_length vc_take vc_plain vc_und toVs_plain toPs_plain toVs_und toPs_und takeN evBin isSh intBin strBin callK resOf packR fin V.plain plainL V.und undL scK kill dstsO dstsL dstsR ite_some ite_pair ite_vbool evUn evLoad evLen V.real finLoop_false quietK_false quietK_same kill_none

mutual
def sameV : JV → JV → Bool
  | .mk k n s l f, .mk k' n' s' l' f' => decide (k = k') && decide (n = n') && decide (s = s') && decide (l.length = l'.length) && decide (f.length = f'.length) && sameVs l l' && samePs f f'
def sameVs : List JV → List JV → Bool
  | v :: vs, w :: ws => sameV v w && sameVs vs ws
  | _, _ => true
def samePs : List (List UInt8 × JV) → List (List UInt8 × JV) → Bool
  | p :: ps, q :: qs => decide (p.1 = q.1) && sameV p.2 q.2 && samePs ps qs
  | _, _ => true
end

mutual
theorem sameV_iff : ∀ v w : JV, sameV v w = true ↔ v = w
  | .mk k n s l f, .mk k' n' s' l' f' => by
    have h1 := sameVs_iff l l'
    have h2 := samePs_iff f f'
    simp only [sameV, Bool.and_eq_true, decide_eq_true_eq, JV.mk.injEq]
    constructor
    · rintro ⟨⟨⟨⟨⟨⟨a, b⟩, c⟩, d⟩, e⟩, g⟩, h⟩
      exact ⟨a, b, c, (h1 d).1 g, (h2 e).1 h⟩
    · rintro ⟨rfl, rfl, rfl, rfl, rfl⟩
      exact ⟨⟨⟨⟨⟨⟨rfl, rfl⟩, rfl⟩, rfl⟩, rfl⟩, (h1 rfl).2 rfl⟩, (h2 rfl).2 rfl⟩
theorem sameVs_iff : ∀ l l' : List JV, l.length = l'.length → (sameVs l l' = true ↔ l = l')
  | [], [], _ => by simp [sameVs]
  | [], _ :: _, h => by simp at h
  | _ :: _, [], h => by simp at h
  | v :: vs, w :: ws, h => by
    have h1 := sameV_iff v w
    have h2 := sameVs_iff vs ws (by simpa using h)
    simp only [sameVs, Bool.and_eq_true, List.cons.injEq, h1, h2]
theorem samePs_iff : ∀ l l' : List (List UInt8 × JV), l.length = l'.length → (samePs l l' = true ↔ l = l')
  | [], [], _ => by simp [samePs]
  | [], _ :: _, h => by simp at h
  | _ :: _, [], h => by simp at h
  | p :: ps, q :: qs, h => by
    have h1 := sameV_iff p.2 q.2
    have h2 := samePs_iff ps qs (by simpa using h)
    obtain ⟨a, b⟩ := p
    obtain ⟨a', b'⟩ := q
    simp only [samePs, Bool.and_eq_true, decide_eq_true_eq, List.cons.injEq, Prod.mk.injEq, h1, h2]
end

theorem sameLoop0 (k nn : Int) (b : List UInt8) (L : List JV) (f : List (List UInt8 × JV)) (k' nn' : Int) (b' : List UInt8) (L' : List JV) (f' : List (List UInt8 × JV)) (id id' : Nat) (hL : L.length ≤ 9223372036854775807) (hLL : L.length = L'.length) (s : St)
    (h1 : s.obs[id]? = some (.cells 25 [.int .i64 k, .int .i64 nn, .str b, .sl .no (toVs L), .sl .no (toPs f)])) (h2 : s.obs[id']? = some (.cells 25 [.int .i64 k', .int .i64 nn', .str b', .sl .no (toVs L'), .sl .no (toPs f')]))
    (ih : ∀ x ∈ L, ∀ (w : JV) (s : St), call G 12 [toV x, toV w] s = some (.bool (sameV x w), s)) :
    ∀ (m i : Nat) (env : Env), L.length - i = m → i ≤ L.length → env 2 = .ptr id 0 → env 3 = .ptr id' 0 → env 5 = .int .i64 i →
      Out (evC G (.loop false af12l0) env s) (fun e env' s' => s' = s ∧ ((sameVs (L.drop i) (L'.drop i) = true ∧ e = .exit 0 ∧ env' 2 = .ptr id 0 ∧ env' 3 = .ptr id' 0) ∨ (sameVs (L.drop i) (L'.drop i) = false ∧ e = .ret ∧ env' 4 = .bool false))) := by
  intro m
  induction m with
  | zero =>
    intro i env hm hi g2 g3 g5
    have : i = L.length := by omega
    subst this
    refine Out_loop G false _ _ af12l0.eq_1 _ _ _ ?_
    simp [g2, g3, g5, h1, toVs_length]
    refine Out_cond _ _ _ _ _ _ _ rfl (fun h => by simp at h) (fun _ => ?_)
    simp [g2, g3, sameVs]
  | succ m ihm =>
    intro i env hm hi g2 g3 g5
    have hlt : i < L.length := by omega
    have hlt' : i < L'.length := by omega
    have hdr := List.drop_eq_getElem_cons hlt
    have hdr' := List.drop_eq_getElem_cons hlt'
    have hwi : IntKind.i64.wrap ((i : Int) + 1) = ((i + 1 : Nat) : Int) := by rw [wrap_in (by omega) (by omega)]; omega
    have hc := ih L[i] (List.getElem_mem hlt) L'[i] s
    refine Out_loop G false _ _ af12l0.eq_1 _ _ _ ?_
    simp [g2, g3, g5, h1, toVs_length]
    refine Out_cond _ _ _ _ _ _ _ rfl (fun _ => ?_) (fun h => by simp at h; omega)
    simp [g2, g3, g5, h1, h2, toVs_get, List.getElem?_eq_getElem hlt, List.getElem?_eq_getElem hlt', hc]
    refine Out_cond _ _ _ _ _ _ _ rfl (fun hr => ?_) (fun hr => ?_)
    · have hr' : sameV L[i] L'[i] = false := by simpa using hr
      rw [hdr, hdr', sameVs, hr']
      simp
    · have hr' : sameV L[i] L'[i] = true := by simpa using hr
      rw [hdr, hdr', sameVs, hr']
      simp [g5, hwi]
      exact ihm (i + 1) _ (by omega) (by omega) (by simp [g2]) (by simp [g3]) (by simp)

theorem sameLoop1 (k nn : Int) (b : List UInt8) (l : List JV) (L : List (List UInt8 × JV)) (k' nn' : Int) (b' : List UInt8) (l' : List JV) (L' : List (List UInt8 × JV)) (id id' : Nat) (hL : L.length ≤ 9223372036854775807) (hLL : L.length = L'.length) (s : St)
    (h1 : s.obs[id]? = some (.cells 25 [.int .i64 k, .int .i64 nn, .str b, .sl .no (toVs l), .sl .no (toPs L)])) (h2 : s.obs[id']? = some (.cells 25 [.int .i64 k', .int .i64 nn', .str b', .sl .no (toVs l'), .sl .no (toPs L')]))
    (ih : ∀ x ∈ L, ∀ (w : JV) (s : St), call G 12 [toV x.2, toV w] s = some (.bool (sameV x.2 w), s)) :
    ∀ (m i : Nat) (env : Env), L.length - i = m → i ≤ L.length → env 2 = .ptr id 0 → env 3 = .ptr id' 0 → env 6 = .int .i64 i →
      Out (evC G (.loop false af12l1) env s) (fun e env' s' => s' = s ∧ ((samePs (L.drop i) (L'.drop i) = true ∧ e = .exit 2) ∨ (samePs (L.drop i) (L'.drop i) = false ∧ e = .ret ∧ env' 4 = .bool false))) := by
  intro m
  induction m with
  | zero =>
    intro i env hm hi g2 g3 g5
    have : i = L.length := by omega
    subst this
    refine Out_loop G false _ _ af12l1.eq_1 _ _ _ ?_
    simp [g2, g3, g5, h1, toPs_length]
    refine Out_cond _ _ _ _ _ _ _ rfl (fun h => by simp at h) (fun _ => ?_)
    simp [samePs]
  | succ m ihm =>
    intro i env hm hi g2 g3 g5
    have hlt : i < L.length := by omega
    have hlt' : i < L'.length := by omega
    have hdr := List.drop_eq_getElem_cons hlt
    have hdr' := List.drop_eq_getElem_cons hlt'
    have hwi : IntKind.i64.wrap ((i : Int) + 1) = ((i + 1 : Nat) : Int) := by rw [wrap_in (by omega) (by omega)]; omega
    have hc := ih L[i] (List.getElem_mem hlt) L'[i].2 s
    rw [hdr, hdr']
    generalize hp : L[i] = p at *
    generalize hp' : L'[i] = p' at *
    obtain ⟨ka, x⟩ := p
    obtain ⟨kb, y⟩ := p'
    simp only [samePs] at hc ⊢
    refine Out_loop G false _ _ af12l1.eq_1 _ _ _ ?_
    simp [g2, g3, g5, h1, toPs_length]
    refine Out_cond _ _ _ _ _ _ _ rfl (fun _ => ?_) (fun h => by simp at h; omega)
    by_cases hk : ka = kb
    · simp [g2, g3, g5, h1, h2, toPs_get, List.getElem?_eq_getElem hlt, List.getElem?_eq_getElem hlt', hp, hp', hc, hk]
      refine Out_cond _ _ _ _ _ _ _ rfl (fun hr => ?_) (fun hr => ?_)
      · have hr' : sameV x y = false := by simpa using hr
        simp [hr']
      · have hr' : sameV x y = true := by simpa using hr
        simp [g5, hwi, hr']
        exact ihm (i + 1) _ (by omega) (by omega) (by simp [g2]) (by simp [g3]) (by simp)
    · simp [g2, g3, g5, h1, h2, toPs_get, List.getElem?_eq_getElem hlt, List.getElem?_eq_getElem hlt', hp, hp', hk]
      refine Out_cond _ _ _ _ _ _ _ rfl (fun hr => ?_) (fun hr => by simp at hr)
      simp [hk]

theorem same_spec : ∀ (v w : JV), v.ok → ∀ (s : St), call G 12 [toV v, toV w] s = some (.bool (sameV v w), s)
  | .mk k nn b l f, .mk k' nn' b' l' f', hok, s => by
    obtain ⟨_, _, hb, hl, hf, hokl, hokf⟩ := hok
    have ihl : ∀ x ∈ l, ∀ (w : JV) (s : St), call G 12 [toV x, toV w] s = some (.bool (sameV x w), s) := fun x hx w s => same_spec x w (okVs_mem hokl x hx) s
    have ihf : ∀ x ∈ f, ∀ (w : JV) (s : St), call G 12 [toV x.2, toV w] s = some (.bool (sameV x.2 w), s) := fun x hx w s => same_spec x.2 w (okPs_mem hokf x hx).2 s
    have ho1 : (s.obs ++ [AObj.cells 25 [.int .i64 k, .int .i64 nn, .str b, .sl .no (toVs l), .sl .no (toPs f)], AObj.cells 25 [.int .i64 k', .int .i64 nn', .str b', .sl .no (toVs l'), .sl .no (toPs f')]])[s.obs.length]? = some (.cells 25 [.int .i64 k, .int .i64 nn, .str b, .sl .no (toVs l), .sl .no (toPs f)]) := by simp
    have ho2 : (s.obs ++ [AObj.cells 25 [.int .i64 k, .int .i64 nn, .str b, .sl .no (toVs l), .sl .no (toPs f)], AObj.cells 25 [.int .i64 k', .int .i64 nn', .str b', .sl .no (toVs l'), .sl .no (toPs f')]])[s.obs.length + 1]? = some (.cells 25 [.int .i64 k', .int .i64 nn', .str b', .sl .no (toVs l'), .sl .no (toPs f')]) := by simp
    refine call_out (F := af12) rfl rfl ?_
    simp [af12, af12b, vc, toVs_length, toPs_length]
    refine Out_cond _ _ _ _ _ _ _ rfl (fun h => ?_) (fun h => ?_)
    · have hf' : sameV (.mk k nn b l f) (.mk k' nn' b' l' f') = false := by
        simp only [sameV]
        simp at h
        grind
      simp [hf']
    · have h' : k = k' ∧ nn = nn' ∧ b = b' ∧ l.length = l'.length ∧ f.length = f'.length := by
        simp at h
        grind
      obtain ⟨e1, e2, e3, e4, e5⟩ := h'
      have hs : sameV (.mk k nn b l f) (.mk k' nn' b' l' f') = (sameVs l l' && samePs f f') := by simp [sameV, e1, e2, e3, e4, e5]
      rw [hs]
      simp
      refine Out.mono (sameLoop0 k nn b l f k' nn' b' l' f' s.obs.length (s.obs.length + 1) hl e4 _ ho1 ho2 ihl l.length 0 _ (by omega) (by omega) (by simp) (by simp) (by simp)) ?_
      rintro e env s' ⟨rfl, ⟨g1, rfl, g2, g3⟩ | ⟨g1, rfl, g4⟩⟩
      · simp only [List.drop_zero] at g1
        simp
        refine Out.mono (sameLoop1 k nn b l f k' nn' b' l' f' s.obs.length (s.obs.length + 1) hf e5 _ ho1 ho2 ihf f.length 0 _ (by omega) (by omega) (by simp [g2]) (by simp [g3]) (by simp)) ?_
        rintro e env s' ⟨rfl, ⟨q1, rfl⟩ | ⟨q1, rfl, q4⟩⟩
        · simp only [List.drop_zero] at q1
          simp [g1, q1]
        · simp only [List.drop_zero] at q1
          simp [g1, q1, q4]
      · simp only [List.drop_zero] at g1
        simp [g1, g4]
termination_by v => SizeOf.sizeOf v
decreasing_by
  · have := List.sizeOf_lt_of_mem hx
    simp; omega
  · have := List.sizeOf_lt_of_mem hx
    obtain ⟨a, b⟩ := x
    simp at this ⊢; omega

theorem one_spec (v w : JV) (hv : v.ok) (hw : w.ok) (s : St) : call G 4 [toV v, toV w] s = some (.bool true, s) := by
  have hf := fun s => fewT_spec v hv s
  have hf' := fun s => fewT_spec w hw s
  have hr := fun s => rightT_spec v hv s
  have hr' := fun s => rightT_spec w hw s
  have ha := awake_spec
  have hs := fun s => same_spec v w hv s
  by_cases hfew : 0 ≤ fewV v 60 ∧ 0 ≤ fewV w 60 ∧ treeV v 12 = true ∧ treeV w 12 = true
  · obtain ⟨f1, f2, t1, t2⟩ := hfew
    obtain ⟨hsm, _, hlen⟩ := few_ok v hv 60 f1
    obtain ⟨hsm', _, hlen'⟩ := few_ok w hw 60 f2
    have he := fun s => encode_spec v hv (fun _ => ⟨hsm, by omega⟩) s
    have he' := fun s => encode_spec w hw (fun _ => ⟨hsm', by omega⟩) s
    have hne := encJ_ne v 12 t1
    have hiff : decide (encJ v = encJ w) = sameV v w := by
      rw [Bool.eq_iff_iff, decide_eq_true_eq, sameV_iff]
      exact ⟨fun h => encJ_inj t1 t2 h, fun h => by rw [h]⟩
    simp only [t1, t2, if_true] at he he' hr hr'
    refine call_out (F := af4) rfl rfl ?_
    simp [af4, af4b, ha, hf, hf', f1, f2, hr, hr']
    refine Out_cond _ _ _ _ _ _ _ rfl (fun h => by simp at h) (fun _ => ?_)
    simp [he, he', hne, hs, hiff]
  · refine call_out (F := af4) rfl rfl ?_
    simp [af4, af4b, ha, hf, hf', hr, hr']
    refine Out_cond _ _ _ _ _ _ _ rfl (fun _ => ?_) (fun h => ?_)
    · simp [ha]
    · exfalso
      apply hfew
      simp at h
      grind

end Go.Proofs.YtjdppboomglenaaDoor.Eng
