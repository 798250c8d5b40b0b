/-
  A call that leaves behind no more than one new slice of bytes tells these bytes: nobody writes them any more. No condition.
-/
import Derived.Test.YtadpobnajjocnaaDoorEngP
namespace Go.Proofs.YtadpobnajjocnaaDoor.Eng
open Go Go.RowKit
set_option linter.unusedSimpArgs false
set_option linter.unusedVariables false

section
variable {P : Program} {B : Nat} {w0 : World}

theorem RelC.of_list {S S2 : Sit} {b : Nat} : ∀ (l : List UInt8) (cc : List Value) (off : Nat), RelL S (asBytes l) cc → (∀ k c, cc[k]? = some c → S2.w.cell? ⟨b, off + k, none⟩ = some c) → (∀ k, ¬ S2.own ⟨b, k, none⟩) → RelC S2 (asBytes l) b off
  | [], _, off, _, _, _ => .nil _ _
  | x :: l, _, off, .cons _ c _ cs h hl, hc, ho => by
    cases h
    refine .cons _ _ _ _ _ rfl (hc 0 _ rfl) (ho off) (.int _ _) (RelC.of_list l cs (off + 1) hl (fun k c hk => ?_) ho)
    have := hc (k + 1) c (by simpa using hk)
    rw [show off + 1 + k = off + (k + 1) by omega]
    exact this

/-- The new slice is frozen. -/
theorem SoundCall.freeze {f : FuncId} {args : List V} {s : St} {t : TypeId} {l : List UInt8} (hd : ∀ o ∈ s.obs, o ≠ .dead)
    (h : SoundCall P B w0 f args s (.msl s.obs.length 1 0 l.length, ⟨s.obs ++ [.arr t (asBytes l)], s.bufs⟩)) : SoundCall P B w0 f args s (.sl .no (asBytes l), s) := by
  intro S cargs hst hI hargs
  have key : ∀ e w', (∃ c S', e = Ending.returned c ∧ S'.w = w' ∧ S'.st = (⟨s.obs ++ [.arr t (asBytes l)], s.bufs⟩ : St) ∧ Inv B w0 S' ∧ Ext S S' ∧ Rel S' (.msl s.obs.length 1 0 l.length) c) →
      ∃ c S', e = Ending.returned c ∧ S'.w = w' ∧ S'.st = s ∧ Inv B w0 S' ∧ Ext S S' ∧ Rel S' (.sl .no (asBytes l)) c := by
    rintro e w' ⟨c, S', rfl, rfl, hst', hI', hX, hr⟩
    have hobs : S'.st.obs = s.obs ++ [.arr t (asBytes l)] := by rw [hst']
    have hbufs : S'.st.bufs = s.bufs := by rw [hst']
    have hn : s.obs.length ≤ S'.st.obs.length := by rw [hobs]; simp
    have hb : s.bufs.length ≤ S'.st.bufs.length := by rw [hbufs]; exact Nat.le_refl _
    have hu : ∀ i o, i < s.obs.length → S'.st.obs[i]? = some o → o.und s.obs.length s.bufs.length = true := by
      intro i o hi ho
      rw [hobs, List.getElem?_append_left hi] at ho
      have := (hI.obj i o (by rw [hst]; exact ho)).2.und
      rw [hst] at this
      exact this
    have hst2 : (S'.drop s.obs.length s.bufs.length).st = s := by
      simp only [Sit.drop, Sit.dropH, hobs, hbufs]
      rw [List.take_left, List.take_length]
    have hlast : S'.st.obs[s.obs.length]? = some (.arr t (asBytes l)) := by rw [hobs]; simp
    obtain ⟨_, cc, rest, hcc, hrl⟩ := hI'.obj _ _ hlast
    have hlen : cc.length = l.length := by
      have := hrl.length
      simpa [asBytes] using this.symm
    have hown : ∀ k, ¬ (S'.drop s.obs.length s.bufs.length).own ⟨S'.μ s.obs.length, k, none⟩ := by
      rintro k (⟨i, hi, e⟩ | ⟨i, hi, e, h1, h2⟩ | ⟨q, hq, hq2⟩)
      · rw [hst2] at hi
        have e' : S'.μ s.obs.length = S'.μ i := e
        rcases hI'.inj s.obs.length i (by rw [hobs]; simp) (by rw [hobs]; simp; omega) e' with q | q | q
        · omega
        · rw [hlast] at q; cases q
        · rw [hobs, List.getElem?_append_left hi] at q
          exact hd _ (List.mem_of_getElem? q) rfl
      · rw [hst2] at hi
        exact hI'.bufobj i s.obs.length (by rw [hbufs]; exact hi) (by rw [hobs]; simp) (.inl (Nat.lt_of_le_of_lt h1 h2)) e.symm
      · exact (hI'.hid _ q (hq.resolve_right id)).2.2.1 s.obs.length (by rw [hobs]; simp) rfl
    have hcell : ∀ k c, cc[k]? = some c → (S'.drop s.obs.length s.bufs.length).w.cell? ⟨S'.μ s.obs.length, 0 + k, none⟩ = some c := by
      intro k c hk
      have hk2 : (cc ++ rest)[k]? = some c := by rw [List.getElem?_append_left (List.getElem?_eq_some_iff.1 hk).1]; exact hk
      simp only [Sit.drop, Sit.dropH, World.cell?, hcc, Nat.zero_add]
      simpa using hk2
    refine ⟨c, S'.drop s.obs.length s.bufs.length, rfl, rfl, hst2, hI'.drop hn hb hu, hX.drop (by rw [hst]; exact Nat.le_refl _) (by rw [hst]; exact Nat.le_refl _), ?_⟩
    cases hr with
    | msl id sz off len cap tt hid hlc hsh =>
      have hll : (asBytes l).length = l.length := by simp [asBytes]
      have := Rel.slAt (S := S'.drop s.obs.length s.bufs.length) .no (asBytes l) (S'.μ s.obs.length) 0 cap 1 (by rw [hll]; exact hlc) (fun x hx => by
        simp only [asBytes, List.mem_map] at hx
        obtain ⟨y, _, rfl⟩ := hx
        rfl) (by rw [asBytes_flat]; exact RelC.of_list l cc 0 hrl hcell hown) trivial
      rw [hll] at this
      exact this
  rcases h S cargs hst hI hargs with ⟨h1, h2⟩ | ⟨v, w', h1, h2⟩
  · exact .inl ⟨h1, h2.mono key⟩
  · exact .inr ⟨v, w', h1, key _ _ h2⟩
end

end Go.Proofs.YtadpobnajjocnaaDoor.Eng
