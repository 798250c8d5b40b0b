/-
  The statement QueueSoon, over values: the loop. No condition.
-/
import Derived.Test.YtaljmhlblanhaaaQSoon
namespace Go.Proofs.Ytaljmhlblanhaaa.Eng
open Go
set_option linter.unusedSimpArgs false
set_option linter.unusedVariables false

attribute [local simp] evC_reg evC_regD evR_cons evR_nil runR_some regK_some evC_ret evC_skip evC_exit Out_seq Out_blk Out_some seqQ_norm seqQ_ret seqQ_exit blkQ_norm blkQ_ret blkQ_exit loopQ_norm loopQ_ret loopQ_exit
attribute [local simp] stepR evOp put upd_apply X.ev initEnv cells_agg cells_int cells_str cells_bool cells_sl cells_ptr cells_pnil cells_fn cells_map takeN evBin isSh intBin strBin callK resOf packR fin V.plain plainL V.und undL scK kill dstsO dstsL dstsR ite_some ite_pair ite_vbool evUn evLen V.real finLoop_false quietK_false kill_none

theorem mem_incA {l : List PA} {p : PA} (h : p ∈ l.map incA) : ∃ q ∈ l, p = incA q := by
  obtain ⟨q, hq, rfl⟩ := List.mem_map.1 h
  exact ⟨q, hq, rfl⟩

theorem SoonI.take {s : St} {q : Nat} {a : Nat} {K : Nat} {xs : List PA} {v : V} {ga : Option Nat} {bs : List Bool} {o : Own} {ds : List Nat} {t i : Nat} (h : SoonI s q (some a) K xs v ga bs o ds t i) (hi : i ≤ 60) (hne : xs ≠ []) (pick : Int) :
    ∃ (p : PA) (d g : Nat) (s1 : St) (cs rest : List V), ds[p.1]? = some d ∧ t + 1 ≤ d ∧ v = .msl g 1 0 bs.length ∧ p.1 < bs.length ∧ bs[p.1]? = some false ∧ call G 10 [.ptr q 0, .int .i64 pick] s = some (.tup [.int .i64 ((p.1 : Nat) : Int), .bool true], s1) ∧ s1.obs[g]? = some (.arr 4 (bs.map V.bool ++ rest)) ∧
      putL (bs.map V.bool ++ rest) p.1 [.bool true] = cs ∧ cs = (bs.set p.1 true).map V.bool ++ rest ∧
      ∃ xs', SoonI ⟨s1.obs.set g (.arr 4 cs), s1.bufs⟩ q (some a) K xs' v ga (bs.set p.1 true) o ds (t + 1) (i + 1) := by
  have hix := h.xl
  have hLne : lst xs ≠ [] := fun e => hne (List.length_eq_zero_iff.1 (by rw [← lst_length, e]; rfl))
  have hb := nextV_lt K (lst xs) pick hLne
  rw [lst_length] at hb
  have hso := sorted_take h.so (nextV K (lst xs) pick).toNat
  have hsl := slack_take h.so h.sl hne pick
  generalize hn : (nextV K (lst xs) pick).toNat = n at hso hsl
  have hnl : n < xs.length := by omega
  have hxn : xs[n]? = some xs[n] := List.getElem?_eq_getElem hnl
  generalize hp : xs[n] = p at hxn
  have hpm : p ∈ xs := List.mem_of_getElem? hxn
  have hage : ∀ e ∈ lst xs, 0 ≤ e.2 ∧ e.2 ≤ 1000000 := by
    intro e he
    simp only [lst, List.mem_map] at he
    obtain ⟨p, hp, rfl⟩ := he
    have := h.age p hp
    have := h.tl
    simp
    omega
  obtain ⟨s1, c1, hq1, hle1, hf1, hb1⟩ := take_spec h.hq (by simp; omega) hage pick _ (by rw [hn]; exact lst_get xs n p hxn)
  rw [hn, lst_inc] at hq1
  obtain ⟨d, hd1, hd2⟩ := h.sl n p hxn
  have hbp := h.mem p hpm
  have hpl := (List.getElem?_eq_some_iff.1 hbp).1
  have hg := h.hg
  cases ga with
  | none =>
    obtain ⟨rfl, _⟩ := hg
    simp at hbp
  | some g =>
    obtain ⟨hv, rest, h2, h3⟩ := hg
    obtain ⟨hgq, hgqa⟩ := h.n1 g rfl
    have hga : g ≠ a := fun e => hgqa (by rw [e])
    have hs1 : s1.obs[g]? = some (.arr 4 (bs.map V.bool ++ rest)) := by rw [hf1 g hgq hga]; exact h2
    have hput : putL (bs.map V.bool ++ rest) p.1 [.bool true] = (bs.set p.1 true).map V.bool ++ rest := by
      simp only [putL, List.map_set]
      rw [List.set_append_left _ _ (by simpa using hpl)]
    refine ⟨p, d, g, s1, _, rest, hd1, by omega, hv, hpl, hbp, c1, hs1, hput, rfl, (xs.eraseIdx n).map incA, ?_⟩
    have hne1 : ∀ q ∈ xs.eraseIdx n, q.1 ≠ p.1 := by
      intro q hq e
      have := (nodup_erase (xs.map (·.1)) n p.1 h.nd (by simp [hxn])).1
      rw [← mapErase] at this
      exact this (by rw [← e]; exact List.mem_map_of_mem hq)
    constructor
    · exact hq1.frame (List.getElem?_set_ne hgq) (fun i hi => by cases hi; exact List.getElem?_set_ne hga)
    · refine ⟨by rw [hv]; simp, rest, ?_, h3⟩
      exact List.getElem?_set_self (obs_lt hs1)
    · exact h.n1
    · have := h.hd
      unfold DS at this ⊢
      show _ ∨ ∃ i, o = .buf i ∧ s1.bufs[i]? = _
      rw [hb1]
      exact this
    · simp [h.hl]
    · intro m hm
      by_cases hmp : m = p.1
      · subst hmp
        rw [List.getElem?_set_self hpl] at hm
        cases hm
      · rw [List.getElem?_set_ne (Ne.symm hmp)] at hm
        obtain ⟨b, hb⟩ := h.live m hm
        obtain ⟨j, hj⟩ := List.getElem?_of_mem hb
        have hjn : j ≠ n := by
          intro e
          subst e
          rw [hxn] at hj
          cases hj
          exact hmp rfl
        exact ⟨b + 1, List.mem_map.2 ⟨(m, b), List.mem_eraseIdx_iff_getElem?.2 ⟨j, hjn, hj⟩, rfl⟩⟩
    · intro p' hp'
      obtain ⟨q', hq', rfl⟩ := mem_incA hp'
      have := hne1 q' hq'
      show (bs.set p.1 true)[q'.1]? = some false
      rw [List.getElem?_set_ne (Ne.symm this)]
      exact h.mem q' (List.mem_of_mem_eraseIdx hq')
    · have h1 := (nodup_erase (xs.map (·.1)) n p.1 h.nd (by simp [hxn])).2
      rw [← mapErase] at h1
      rw [List.map_map]
      exact h1
    · exact hso
    · exact hsl
    · intro p' hp'
      obtain ⟨q', hq', rfl⟩ := mem_incA hp'
      have := h.age q' (List.mem_of_mem_eraseIdx hq')
      simp only [incA]
      omega
    · have := h.dl; omega
    · rw [List.length_map, List.length_eraseIdx, if_pos hnl]; omega
    · have := h.tl; omega

theorem SoonI.next {s : St} {q : Nat} {qa : Option Nat} {K : Nat} {xs : List PA} {v : V} {ga : Option Nat} {bs : List Bool} {o : Own} {ds : List Nat} {t i : Nat} (h : SoonI s q qa K xs v ga bs o ds t i) : SoonI s q qa K xs v ga bs o ds t (i + 1) :=
  { h with dl := by have := h.dl; omega, xl := by have := h.xl; omega, tl := by have := h.tl; omega }

theorem SoonI.soon {s : St} {q : Nat} {qa : Option Nat} {K : Nat} {xs : List PA} {v : V} {ga : Option Nat} {bs : List Bool} {o : Own} {ds : List Nat} {t i : Nat} (h : SoonI s q qa K xs v ga bs o ds t i) (m d : Nat) (hm : bs[m]? = some false) (hd : ds[m]? = some d) : t < d := by
  obtain ⟨a, ha⟩ := h.live m hm
  obtain ⟨j, hj⟩ := List.getElem?_of_mem ha
  obtain ⟨d', h1, h2⟩ := h.sl j _ hj
  rw [hd] at h1
  cases h1
  omega
end Go.Proofs.Ytaljmhlblanhaaa.Eng
