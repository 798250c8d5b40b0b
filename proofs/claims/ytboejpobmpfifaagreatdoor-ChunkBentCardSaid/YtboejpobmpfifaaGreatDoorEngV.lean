/-
  A framed call: it is given the first objects alone; the others, and the buffers, stay as they are. No condition.
-/
import Derived.Test.YtboejpobmpfifaaGreatDoorEngF
namespace Go.Proofs.YtboejpobmpfifaaGreatDoor.Eng
open Go Go.RowKit
set_option linter.unusedSimpArgs false
set_option linter.unusedVariables false

mutual
theorem V.top_plain : ∀ v : V, v.plain.top ≤ v.top
  | .fn f xs ys => by
    have h1 := topL_plain xs
    have h2 := topL_plain ys
    simp only [V.plain, V.top]; omega
  | .sl o xs => by simp only [V.plain, V.top]; exact topL_plain xs
  | .agg cs => by simp only [V.plain, V.top]; exact topL_plain cs
  | .tup cs => by simp only [V.plain, V.top]; exact topL_plain cs
  | .ept cs => by simp only [V.plain, V.top]; exact topL_plain cs
  | .ifc t v => by simp only [V.plain, V.top]; exact V.top_plain v
  | .dat _ _ => by simp [V.plain, V.top]
  | .slx _ _ xs => by simp only [V.plain, V.top]; exact topL_plain xs
  | .spp _ _ _ => by simp [V.plain, V.top]
  | .epz _ _ _ _ => by simp [V.plain, V.top]
  | .junk => by simp [V.plain]
  | .bool _ => by simp [V.plain]
  | .int _ _ => by simp [V.plain]
  | .str _ => by simp [V.plain]
  | .nilF => by simp [V.plain]
  | .nilI => by simp [V.plain]
  | .pnil => by simp [V.plain]
  | .mnil => by simp [V.plain]
  | .msl _ _ _ _ => by simp [V.plain]
  | .ptr _ _ => by simp [V.plain]
  | .map _ => by simp [V.plain]
  | .itr _ => by simp [V.plain]
theorem topL_plain : ∀ l : List V, topL (plainL l) ≤ topL l
  | [] => by simp [plainL]
  | v :: vs => by
    have h1 := V.top_plain v
    have h2 := topL_plain vs
    simp only [plainL, topL]; omega
end

theorem topL_le {n : Nat} : ∀ {l : List V}, (∀ v ∈ l, v.top ≤ n) → topL l ≤ n
  | [], _ => Nat.zero_le _
  | v :: vs, h => by
    have h1 := h v (by simp)
    have h2 := topL_le (l := vs) (fun w hw => h w (by simp [hw]))
    simp only [topL]; omega

/-- What a framed call comes to. -/
def Framed (P : Program) (B : Nat) (w0 : World) (g : FuncId) (args : List V) (s : St) (v : V) (s' : St) : Prop :=
  ∃ s1 : St, SoundCall P B w0 g args (frIn s args) (v, s1) ∧ FrOk (topL args) s args (v, s1) ∧ s' = ⟨s1.obs ++ s.obs.drop (topL args), s.bufs⟩

section
variable {P : Program} {B : Nat} {w0 : World}

theorem Framed.sound {g : FuncId} {args : List V} {s s' : St} {v : V} (hf : Framed P B w0 g args s v s') : SoundCall P B w0 g args s (v, s') := by
  obtain ⟨s1, h, hok, rfl⟩ := hf
  obtain ⟨hle, hau, hold, hres, hnew, hkind⟩ := hok
  unfold frIn at h
  generalize topL args = n at *
  intro S cargs hst hI hargs
  subst hst
  let X : Nat → (Nat → Prop) → Prop := fun b q =>
    ((∃ k, n ≤ k ∧ k < S.st.obs.length ∧ S.st.obs[k]? ≠ some .dead ∧ S.μ k = b ∧ ∀ i, i < n → S.μ i ≠ b) ∧ q = fun _ => True) ∨
    (∃ i, i < S.st.bufs.length ∧ S.live i ∧ (S.ρ i).1 = b ∧ q = fun o => (S.ρ i).2.1 ≤ o ∧ o < (S.ρ i).2.2)
  let Sd := S.dropH n 0 X
  have hnd : ∀ i, i < n → S.st.obs[i]? ≠ some .dead := by
    intro i hi hd
    have hm : AObj.dead ∈ S.st.obs.take n := List.mem_of_getElem? (by rw [List.getElem?_take, if_pos hi]; exact hd)
    exact (hold _ hm).2 rfl
  have hob : ∀ i o, (S.st.obs.take n)[i]? = some o → i < n ∧ S.st.obs[i]? = some o ∧ o.und n 0 = true := by
    intro i o ho
    have hm := List.mem_of_getElem? ho
    rw [List.getElem?_take] at ho
    split at ho
    · rename_i hi
      exact ⟨hi, ho, (hold o hm).1⟩
    · cases ho
  have hlo : Sd.st.obs.length = n := by simp [Sd, Sit.dropH]; omega
  have hlb : Sd.st.bufs = [] := by simp [Sd, Sit.dropH]
  have hown : ∀ a, Sd.own a → S.own a := by
    rintro a (⟨i, ⟨hi, _⟩, hq⟩ | ⟨i, hi, hq⟩ | ⟨q, hh | ⟨⟨k, k1, k2, kd, k3, k4⟩, rfl⟩ | ⟨i, i1, i2, i3, rfl⟩, hq⟩)
    · exact .inl ⟨i, ⟨by omega, hnd i (by omega)⟩, hq⟩
    · rw [hlb] at hi; simp at hi
    · exact .inr (.inr ⟨q, hh, hq⟩)
    · exact .inl ⟨k, ⟨k2, kd⟩, k3.symm⟩
    · exact .inr (.inl ⟨i, i1, i3.symm, hq.1, hq.2⟩)
  have hId : Inv B w0 Sd := by
    constructor
    · exact hI.below
    · exact hI.base
    · intro i o hi
      obtain ⟨h1, h2, h3⟩ := hob i o hi
      have := hI.obj i o h2
      exact ⟨this.1, this.2.cutH hown hle (Nat.zero_le _) h3⟩
    · intro i j hi hj e
      rw [hlo] at hi hj
      rcases hI.inj i j (by omega) (by omega) e with g | g | g
      · exact .inl g
      · exact absurd g (hnd i hi)
      · exact absurd g (hnd j hj)
    · intro i hi
      rw [hlb] at hi; simp at hi
    · intro i hi
      rw [hlb] at hi; simp at hi
    · intro i hi
      rw [hlb] at hi; simp at hi
    · intro i k hi
      rw [hlb] at hi; simp at hi
    · intro i j hi
      rw [hlb] at hi; simp at hi
    · rintro b q (hh | ⟨⟨k, k1, k2, _, k3, k4⟩, rfl⟩ | ⟨i, i1, i2, i3, rfl⟩)
      · obtain ⟨h1, h2, h3, h4⟩ := hI.hid b q hh
        exact ⟨h1, h2, fun k hk => h3 k (by omega), fun i hi => by rw [hlb] at hi; simp at hi⟩
      · subst k3
        exact ⟨hI.mu_ge k2, hI.mu_lt k2, fun j hj => k4 j (by omega), fun i hi => by rw [hlb] at hi; simp at hi⟩
      · subst i3
        have := hI.live i i1 i2
        exact ⟨this.1, this.2, fun j hj => (hI.bufobj i j i1 (by omega) i2).symm, fun i hi => by rw [hlb] at hi; simp at hi⟩
    · intro i j t cs hi hj e
      rw [hlo] at hj
      exact hI.injc i j t cs (hob i _ hi).2.1 (by omega) e
  have hargs' : RelL Sd args cargs := hargs.cutH hown hle (Nat.zero_le _) hau
  have hlen1 : s1.obs.length = n := by
    have := congrArg List.length hkind
    simp only [List.length_map, List.length_take] at this
    omega
  -- behind the call all is there again
  have back : ∀ (S' : Sit) (c : Value), S'.st = s1 → Inv B w0 S' → Ext Sd S' → Rel S' v c →
      ∃ S2 : Sit, S2.w = S'.w ∧ S2.st = ⟨s1.obs ++ S.st.obs.drop n, S.st.bufs⟩ ∧ Inv B w0 S2 ∧ Ext S S2 ∧ Rel S2 v c := by
    intro S' c hst' hI' hE hr
    have hmu : ∀ i, i < n → S'.μ i = S.μ i := fun i hi => hE.mu i (by rw [hlo]; exact hi)
    let S2 : Sit := { S with st := ⟨s1.obs ++ S.st.obs.drop n, S.st.bufs⟩, w := S'.w }
    have hl' : S'.st.obs.length = n := by rw [hst']; exact hlen1
    have hlen2 : S2.st.obs.length = S.st.obs.length := by simp [S2]; omega
    have hsize : S.w.heap.size ≤ S'.w.heap.size := hE.size
    -- what is hidden is as it was
    have hdead : ∀ i, i < n → S'.st.obs[i]? ≠ some .dead := by
      intro i hi hd
      have h1 : (s1.obs.map AObj.kind)[i]? = some 4 := by rw [List.getElem?_map, ← hst', hd]; rfl
      rw [hkind, List.getElem?_map] at h1
      cases hq : (S.st.obs.take n)[i]? with
      | none => rw [hq] at h1; cases h1
      | some o =>
        rw [hq] at h1
        simp only [Option.map_some, Option.some.injEq] at h1
        exact (hold o (List.mem_of_getElem? hq)).2 h1
    have hS2 : ∀ i, n ≤ i → S2.st.obs[i]? = S.st.obs[i]? := by
      intro i hi
      show (s1.obs ++ S.st.obs.drop n)[i]? = _
      rw [List.getElem?_append_right (by omega), List.getElem?_drop]
      congr 1
      omega
    have hobj : ∀ k, n ≤ k → k < S.st.obs.length → S.st.obs[k]? ≠ some .dead → (∀ i, i < n → S.μ i ≠ S.μ k) → S'.hid (S.μ k) (fun _ => True) ∧ S'.w.heap[S.μ k]? = S.w.heap[S.μ k]? :=
      fun k h1 h2 h0 h3 => hE.hid _ _ (.inr (.inl ⟨⟨k, h1, h2, h0, rfl, h3⟩, rfl⟩))
    have hbuf : ∀ i, i < S.st.bufs.length → S.live i → S'.hid (S.ρ i).1 (fun o => (S.ρ i).2.1 ≤ o ∧ o < (S.ρ i).2.2) ∧ S'.w.heap[(S.ρ i).1]? = S.w.heap[(S.ρ i).1]? :=
      fun i h1 h2 => hE.hid _ _ (.inr (.inr ⟨i, h1, h2, rfl, rfl⟩))
    have o1 : ∀ a, S2.own a → S'.own a := by
      rintro a (⟨i, ⟨hi, hid⟩, hq⟩ | ⟨i, hi, h1, h2, h3⟩ | ⟨q, hh, hq⟩)
      · have hq' : a.block = S.μ i := hq
        by_cases hin : i < n
        · exact .inl ⟨i, ⟨by omega, hdead i hin⟩, by rw [hmu i hin]; exact hq'⟩
        · by_cases hex : ∃ j, j < n ∧ S.μ j = S.μ i
          · obtain ⟨j, hj, hji⟩ := hex
            exact .inl ⟨j, ⟨by omega, hdead j hj⟩, by rw [hmu j hj, hji]; exact hq'⟩
          · have := (hobj i (by omega) (by omega) (by rw [← hS2 i (by omega)]; exact hid) (fun j hj e => hex ⟨j, hj, e⟩)).1
            rw [← hq'] at this
            exact .inr (.inr ⟨_, this, trivial⟩)
      · have h1' : a.block = (S.ρ i).1 := h1
        have hlv : S.live i := .inl (Nat.lt_of_le_of_lt h2 h3)
        have := (hbuf i hi hlv).1
        rw [← h1'] at this
        exact .inr (.inr ⟨_, this, h2, h3⟩)
      · exact .inr (.inr ⟨q, (hE.hid _ q (.inl hh)).1, hq⟩)
    have o2 : ∀ a, a.block < S.w.heap.size → S2.own a → S.own a := by
      rintro a ha (⟨i, ⟨hi, hid⟩, hq⟩ | ⟨i, hi, hq⟩ | hh)
      · refine .inl ⟨i, ⟨by omega, ?_⟩, hq⟩
        by_cases hin : i < n
        · exact hnd i hin
        · rw [← hS2 i (by omega)]; exact hid
      · exact .inr (.inl ⟨i, hi, hq⟩)
      · exact .inr (.inr hh)
    have hE2 : Ext S S2 := by
      refine ⟨⟨hE.size, hE.shape, ?_, o2, by omega, Nat.le_refl _, fun _ _ => rfl, fun i m q _ hm => ⟨m, q, hm, .inr (.inl ⟨rfl, rfl, rfl⟩)⟩, fun _ _ _ _ _ _ => rfl⟩, ?_⟩
      · intro a ha hna
        exact hE.cell a ha (fun q => hna (hown a q))
      · intro b q hb
        exact ⟨hb, (hE.hid b q (.inl hb)).2⟩
    have hE0 : Ext0 (S'.drop n 0) S2 := by
      refine ⟨Nat.le_refl _, fun _ _ => rfl, fun _ _ _ => rfl, ?_, ?_, ?_, ?_, ?_, fun i m q hi => by simp [Sit.drop, Sit.dropH] at hi⟩
      · intro a _ ho
        rcases o1 a ho with ⟨i, ⟨hi, hid⟩, hq⟩ | ⟨i, hi, hq, h2, h3⟩ | ⟨q, hh, hq⟩
        · refine .inl ⟨i, ⟨by simp [Sit.drop, Sit.dropH]; omega, ?_⟩, hq⟩
          simp only [Sit.drop, Sit.dropH]
          rw [List.getElem?_take, if_pos (by omega)]
          exact hid
        · exfalso
          -- a cell of one of the call's own buffers
          have hlv : S'.live i := .inl (Nat.lt_of_le_of_lt h2 h3)
          rcases ho with ⟨k, ⟨hk, hkd⟩, hk'⟩ | ⟨k, hk, k1, k2, k3⟩ | ⟨q, hh, hqq⟩
          · have hk'' : a.block = S.μ k := hk'
            by_cases hin : k < n
            · exact hI'.bufobj i k hi (by omega) hlv (by rw [hmu k hin, ← hk'', hq])
            · by_cases hex : ∃ j, j < n ∧ S.μ j = S.μ k
              · obtain ⟨j, hj, hjk⟩ := hex
                exact hI'.bufobj i j hi (by omega) hlv (by rw [hmu j hj, hjk, ← hk'', hq])
              · have := (hobj k (by omega) (by omega) (by rw [← hS2 k (by omega)]; exact hkd) (fun j hj e => hex ⟨j, hj, e⟩)).1
                exact (hI'.hid _ _ this).2.2.2 i hi hlv (by rw [← hk'', hq])
          · have k1' : a.block = (S.ρ k).1 := k1
            have := (hbuf k hk (.inl (Nat.lt_of_le_of_lt k2 k3))).1
            exact (hI'.hid _ _ this).2.2.2 i hi hlv (by rw [← k1', hq])
          · have := (hE.hid _ q (.inl hh)).1
            exact (hI'.hid _ _ this).2.2.2 i hi hlv hq.symm
        · exact .inr (.inr ⟨q, .inl hh, hq⟩)
      · simp [Sit.drop, Sit.dropH]; omega
      · simp [Sit.drop, Sit.dropH]
      · intro i hi
        simp [Sit.drop, Sit.dropH] at hi
        exact (hmu i (by omega)).symm
      · intro i m q hi
        simp [Sit.drop, Sit.dropH] at hi
    have hg2 : ∀ i o, S2.st.obs[i]? = some o → (i < n ∧ S'.st.obs[i]? = some o ∧ o.und n 0 = true) ∨ (n ≤ i ∧ S.st.obs[i]? = some o) := by
      intro i o hi
      have hi' : (s1.obs ++ S.st.obs.drop n)[i]? = some o := hi
      by_cases hin : i < n
      · rw [List.getElem?_append_left (by omega)] at hi'
        exact .inl ⟨hin, by rw [hst']; exact hi', hnew o (List.mem_of_getElem? hi')⟩
      · rw [List.getElem?_append_right (by omega), List.getElem?_drop] at hi'
        refine .inr ⟨by omega, ?_⟩
        rw [← hi']
        congr 1
        omega
    refine ⟨S2, rfl, rfl, ?_, hE2, ?_⟩
    · constructor
      · exact hI'.below
      · exact hI'.base
      · intro i o hi
        rcases hg2 i o hi with ⟨h1, h2, h3⟩ | ⟨h1, h2⟩
        · have h4 := hI'.obj i o h2
          rw [hmu i h1] at h4
          exact ⟨h4.1, (h4.2.cut (n := n) (b := 0) (by omega) (Nat.zero_le _) h3).mono0 hE0 rfl⟩
        · have h4 := hI.obj i o h2
          refine ⟨h4.1, ?_⟩
          have hil := lt_of_get h2
          by_cases hex : ∃ j, j < n ∧ S.μ j = S.μ i
          · obtain ⟨j, hj, hji⟩ := hex
            rcases hI.inj j i (by omega) hil hji with g | g | g
            · omega
            · exact absurd g (hnd j hj)
            · rw [h2] at g
              cases g
              exact Nat.lt_of_lt_of_le (hI.mu_lt hil) hsize
          · by_cases hd : o = .dead
            · subst hd
              exact Nat.lt_of_lt_of_le (hI.mu_lt hil) hsize
            · exact h4.2.mono hE2 (hobj i h1 hil (by rw [h2]; exact fun q => hd (Option.some.inj q)) (fun j hj e => hex ⟨j, hj, e⟩)).2
      · intro i j hi hj e
        have e' : S.μ i = S.μ j := e
        have side : ∀ k, n ≤ k → S.st.obs[k]? = some .dead → S2.st.obs[k]? = some .dead := by
          intro k hk hd
          show (s1.obs ++ S.st.obs.drop n)[k]? = _
          rw [List.getElem?_append_right (by omega), List.getElem?_drop, ← hd]
          congr 1
          omega
        rcases hI.inj i j (by omega) (by omega) e' with g | g | g
        · exact .inl g
        · by_cases hin : i < n
          · exact absurd g (hnd i hin)
          · exact .inr (.inl (side i (by omega) g))
        · by_cases hjn : j < n
          · exact absurd g (hnd j hjn)
          · exact .inr (.inr (side j (by omega) g))
      · intro i hi j h1 h2
        obtain ⟨b1, ⟨c, b2⟩, b3⟩ := hI.buf i hi j h1 h2
        have hhp := (hbuf i hi (.inl (Nat.lt_of_le_of_lt h1 h2))).2
        exact ⟨b1, ⟨c, (World.cell?_of_block (w := S.w) (a := ⟨(S.ρ i).1, j, none⟩) hhp).trans b2⟩, (World.frozen?_of_block (w := S.w) (a := ⟨(S.ρ i).1, j, none⟩) hhp).trans b3⟩
      · intro i hi hq
        exact (hI.froz i hi hq).of_block (hbuf i hi (.inl hq)).2
      · intro i hi hl
        have := hI.live i hi hl
        exact ⟨this.1, Nat.lt_of_lt_of_le this.2 hsize⟩
      · intro i k hi hk hl
        exact hI.bufobj i k hi (by omega) hl
      · exact hI.bufbuf
      · intro b q hb
        obtain ⟨h1, h2, h3, h4⟩ := hI.hid b q hb
        exact ⟨h1, Nat.lt_of_lt_of_le h2 hsize, fun k hk => h3 k (by omega), h4⟩
      · intro i j t cs hi hj e
        have e' : S.μ i = S.μ j := e
        rcases hg2 i _ hi with ⟨h1, h2, h3⟩ | ⟨h1, h2⟩
        · by_cases hjn : j < n
          · exact hI'.injc i j t cs h2 (by omega) (by rw [hmu i h1, hmu j hjn]; exact e')
          · -- of its kind before, too
            exfalso
            have hk : (s1.obs.map AObj.kind)[i]? = some 0 := by rw [List.getElem?_map, ← hst', h2]; rfl
            rw [hkind, List.getElem?_map] at hk
            cases hq : (S.st.obs.take n)[i]? with
            | none => rw [hq] at hk; cases hk
            | some o =>
              rw [hq] at hk
              have ho := (hob i o hq).2.1
              cases o with
              | cells t' cs' =>
                have := hI.injc i j t' cs' ho (by omega) e'
                omega
              | _ => simp [AObj.kind] at hk
        · exact hI.injc i j t cs h2 (by omega) e'
    · exact ((hr.cut (n := n) (b := 0) (by omega) (Nat.zero_le _) hres).mono0 hE0)
  have hcall := h Sd cargs (by simp [Sd, Sit.dropH]) hId hargs'
  rcases hcall with ⟨hr, hc⟩ | ⟨x, w', hr, c, S', he, hw', hst', hI', hE, hrel⟩
  · left
    refine ⟨hr, hc.mono ?_⟩
    rintro e w' ⟨c, S', rfl, rfl, hst', hI', hE, hrel⟩
    obtain ⟨S2, q1, q2, q3, q4, q5⟩ := back S' c hst' hI' hE hrel
    exact ⟨c, S2, rfl, q1, q2, q3, q4, q5⟩
  · right
    obtain ⟨S2, q1, q2, q3, q4, q5⟩ := back S' c hst' hI' hE hrel
    exact ⟨x, w', hr, c, S2, he, q1.trans hw', q2, q3, q4, q5⟩

end
end Go.Proofs.YtboejpobmpfifaaGreatDoor.Eng
