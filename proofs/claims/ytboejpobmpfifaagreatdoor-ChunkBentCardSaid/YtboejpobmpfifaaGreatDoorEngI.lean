/-
  Regions that draw their order: whatever the order, the rows come to what they come to in the text's order. No condition.
-/
import Derived.Test.YtboejpobmpfifaaGreatDoorEngV
import Derived.Orders
namespace Go.Proofs.YtboejpobmpfifaaGreatDoor.Eng
open Go Go.RowKit
set_option linter.unusedSimpArgs false

theorem ev_congr {e e' : Env} : ∀ {x : X}, (∀ t, t ∈ usesX x → e t = e' t) → x.ev e = x.ev e'
  | .tmp t, h => h t (by simp [usesX])
  | .c _, _ => rfl

theorem evs_congr {e e' : Env} : ∀ {l : List X}, (∀ t, t ∈ usesXs l → e t = e' t) → l.map (·.ev e) = l.map (·.ev e')
  | [], _ => rfl
  | x :: l, h => by
    simp only [usesXs, List.flatMap_cons, List.mem_append] at h
    simp only [List.map_cons]
    rw [ev_congr (fun t ht => h t (.inl ht)), evs_congr (l := l) (fun t ht => h t (.inr ht))]

theorem evo_congr {e e' : Env} : ∀ {x : Option X}, (∀ t, t ∈ usesXo x → e t = e' t) → x.map (·.ev e) = x.map (·.ev e')
  | none, _ => rfl
  | some x, h => by simp only [Option.map_some]; rw [ev_congr h]

theorem evOp_congr {op : AOp} {e e' : Env} (h : ∀ t, t ∈ usesO op → e t = e' t) (s : St) : evOp op e s = evOp op e' s := by
  cases op with
  | build z ps =>
    have : ∀ ps : List (Nat × Nat × X), (∀ t, t ∈ ps.flatMap (fun p => usesX p.2.2) → e t = e' t) → ps.map (fun p => (p.1, p.2.1, p.2.2.ev e)) = ps.map (fun p => (p.1, p.2.1, p.2.2.ev e')) := by
      intro ps
      induction ps with
      | nil => intro _; rfl
      | cons p ps ih =>
        intro h
        simp only [List.flatMap_cons, List.mem_append] at h
        simp only [List.map_cons]
        rw [ev_congr (fun t ht => h t (.inl ht)), ih (fun t ht => h t (.inr ht))]
    simp only [evOp]
    rw [this ps h]
  | bsl a z n ps =>
    have : ∀ ps : List (Nat × X), (∀ t, t ∈ ps.flatMap (fun p => usesX p.2) → e t = e' t) → ps.map (fun p => (p.1, (p.2.ev e).plain)) = ps.map (fun p => (p.1, (p.2.ev e').plain)) := by
      intro ps
      induction ps with
      | nil => intro _; rfl
      | cons p ps ih =>
        intro h
        simp only [List.flatMap_cons, List.mem_append] at h
        simp only [List.map_cons]
        rw [ev_congr (fun t ht => h t (.inl ht)), ih (fun t ht => h t (.inr ht))]
    simp only [evOp]
    rw [this ps h]
  | mkfn f a b =>
    simp only [usesO, List.mem_append] at h
    simp only [evOp]
    rw [evs_congr (fun t ht => h t (.inl ht)), evs_congr (fun t ht => h t (.inr ht))]
  | slcS x a b =>
    simp only [usesO, List.mem_append] at h
    simp only [evOp]
    rw [ev_congr (fun t ht => h t (.inl (.inl ht))), evo_congr (fun t ht => h t (.inl (.inr ht))), evo_congr (fun t ht => h t (.inr ht))]
  | slc n x a b =>
    simp only [usesO, List.mem_append] at h
    simp only [evOp]
    rw [ev_congr (fun t ht => h t (.inl (.inl ht))), evo_congr (fun t ht => h t (.inl (.inr ht))), evo_congr (fun t ht => h t (.inr ht))]
  | pick a b c | mupd _ a b c | est a b c =>
    simp only [usesO, List.mem_append] at h
    simp only [evOp]
    rw [ev_congr (x := a) (fun t ht => h t (.inl (.inl ht))), ev_congr (x := b) (fun t ht => h t (.inl (.inr ht))), ev_congr (x := c) (fun t ht => h t (.inr ht))]
  | store _ a b | bin _ a b | eqb _ a b | eqp _ a b | eqs _ _ a b | iadr _ a b | idx a b | app _ _ _ a b | look _ _ _ a b | ment _ _ a b | ustr _ a b | appm _ _ a b | appz _ _ a b | stz _ a b | mks _ _ _ a b | mxn _ a b =>
    simp only [usesO, List.mem_append] at h
    simp only [evOp]
    rw [ev_congr (x := a) (fun t ht => h t (.inl ht)), ev_congr (x := b) (fun t ht => h t (.inr ht))]
  | slc3 _ x a b c =>
    simp only [usesO, List.mem_append] at h
    simp only [evOp]
    rw [ev_congr (x := x) (fun t ht => h t (.inl (.inl (.inl ht)))), ev_congr (x := a) (fun t ht => h t (.inl (.inl (.inr ht)))), ev_congr (x := b) (fun t ht => h t (.inl (.inr ht))), ev_congr (x := c) (fun t ht => h t (.inr ht))]
  | mov x | eqn _ _ x | clr _ _ x | box _ x | b2s x | i2s x | sdata x | pu x | up _ _ x | load _ x | nilchk x | un _ x | cvI _ x | cvS x | fadr _ x | fld _ _ x | ext x _ | len _ x | rng x | nxt x | ifc _ x =>
    simp only [usesO] at h
    simp only [evOp]
    rw [ev_congr (x := x) h]
  | nilb _ | new _ _ | mkmap | call _ _ _ _ | sc _ _ _ _ _ => rfl

/-- A pure operation hangs on no store. -/
theorem evOp_pure {op : AOp} (hp : cls op = .pure) {e : Env} {s s1 : St} {v : V} (h : evOp op e s = some (v, s1)) : s1 = s ∧ ∀ s', evOp op e s' = some (v, s') := by
  have mp : ∀ {x : Option V} {v : V} {s s1 : St}, (x.map fun u => (u, s)) = some (v, s1) → s1 = s ∧ ∀ s' : St, (x.map fun u => (u, s')) = some (v, s') := by
    intro x v s s1 h
    obtain ⟨u, hu, rfl, rfl⟩ := map_pair h
    exact ⟨rfl, fun s' => by rw [hu]; rfl⟩
  cases op with
  | mov x | cvS x | cvI k x | nilchk x | pick c a b | eqb n x y | eqn k n x | mkfn f a b | fadr o x | idx x i | ifc t x | iadr n x i | i2s x =>
    simp only [evOp] at h ⊢
    (repeat' split at h) <;> first
      | cases h; done
      | (simp only [Option.some.injEq, Prod.mk.injEq] at h
         obtain ⟨rfl, rfl⟩ := h
         refine ⟨rfl, fun s' => ?_⟩
         simp_all)
  | build z ps | bsl n z k ps | bin o x y | eqp n x y | eqs n k x y | un o x | slcS x a b | mxn m x y =>
    simp only [evOp] at h ⊢
    first
      | exact mp h
      | (obtain ⟨u, hu, rfl, rfl⟩ := map_pair h
         exact ⟨rfl, fun s' => by rw [hu]; rfl⟩)
  | fld o n x | ext x i =>
    simp only [evOp] at h ⊢
    split at h
    · exact mp h
    · cases h
  | b2s x =>
    simp only [evOp] at h ⊢
    split at h
    · obtain ⟨u, hu, rfl, rfl⟩ := map_pair h
      exact ⟨rfl, fun s' => by rw [hu]; rfl⟩
    · cases h
  | call o q f a => cases o <;> cases q <;> cases hp
  | len k x =>
    simp only [cls] at hp
    split at hp
    · rename_i hk
      simp only [evOp] at h ⊢
      match k, hk with
      | 0, _ =>
        simp only [evLen] at h ⊢
        (repeat' split at h) <;> first
          | cases h; done
          | (simp only [Option.some.injEq, Prod.mk.injEq] at h
             obtain ⟨rfl, rfl⟩ := h
             refine ⟨rfl, fun s' => ?_⟩
             simp_all)
      | 1, _ =>
        simp only [evLen] at h ⊢
        (repeat' split at h) <;> first
          | cases h; done
          | (simp only [Option.some.injEq, Prod.mk.injEq] at h
             obtain ⟨rfl, rfl⟩ := h
             refine ⟨rfl, fun s' => ?_⟩
             simp_all)
    · cases hp
  | _ => cases hp

end Go.Proofs.YtboejpobmpfifaaGreatDoor.Eng
