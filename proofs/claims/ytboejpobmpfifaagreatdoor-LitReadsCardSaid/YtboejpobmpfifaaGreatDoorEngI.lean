/-
  Regions that draw their order: whatever the order, the rows come to what they come to in the text's order. No condition.
-/
import Derived.Test.YtboejpobmpfifaaGreatDoorEngV
import Derived.Orders
set_option linter.unusedSimpArgs false
namespace Go.Proofs.YtboejpobmpfifaaGreatDoor.Eng
open Go Go.RowKit
theorem cG {e e' : Env} : ∀ {x : X}, (∀ t, t ∈ fW x → e t = e' t) → x.ev e = x.ev e'
  | .tmp t, h => h t (by simp [fW])
  | .c _, _ => rfl
theorem sJ {e e' : Env} : ∀ {l : List X}, (∀ t, t ∈ wZ l → e t = e' t) → l.map (·.ev e) = l.map (·.ev e')
  | [], _ => rfl
  | x :: l, h => by
    simp only [wZ, List.flatMap_cons, List.mem_append] at h
    simp only [List.map_cons]
    rw [cG (fun t ht => h t (.inl ht)), sJ (l := l) (fun t ht => h t (.inr ht))]
theorem pL {e e' : Env} : ∀ {x : Option X}, (∀ t, t ∈ DY x → e t = e' t) → x.map (·.ev e) = x.map (·.ev e')
  | none, _ => rfl
  | some x, h => by simp only [Option.map_some]; rw [cG h]
theorem uZ {op : AOp} {e e' : Env} (h : ∀ t, t ∈ fG op → e t = e' t) (s : St) : aZ op e s = aZ op e' s := by
  cases op with
  | build z ps =>
    have : ∀ ps : List (Nat × Nat × X), (∀ t, t ∈ ps.flatMap (fun p => fW p.2.2) → e t = e' t) → ps.map (fun p => (p.1, p.2.1, p.2.2.ev e)) = ps.map (fun p => (p.1, p.2.1, p.2.2.ev e')) := by
      intro ps
      induction ps with
      | nil => intro _; rfl
      | cons p ps ih =>
        intro h
        simp only [List.flatMap_cons, List.mem_append] at h
        simp only [List.map_cons]
        rw [cG (fun t ht => h t (.inl ht)), ih (fun t ht => h t (.inr ht))]
    simp only [aZ]
    rw [this ps h]
  | bsl a z n ps =>
    have : ∀ ps : List (Nat × X), (∀ t, t ∈ ps.flatMap (fun p => fW p.2) → e t = e' t) → ps.map (fun p => (p.1, (p.2.ev e).plain)) = ps.map (fun p => (p.1, (p.2.ev e').plain)) := by
      intro ps
      induction ps with
      | nil => intro _; rfl
      | cons p ps ih =>
        intro h
        simp only [List.flatMap_cons, List.mem_append] at h
        simp only [List.map_cons]
        rw [cG (fun t ht => h t (.inl ht)), ih (fun t ht => h t (.inr ht))]
    simp only [aZ]
    rw [this ps h]
  | mkfn f a b =>
    simp only [fG, List.mem_append] at h
    simp only [aZ]
    rw [sJ (fun t ht => h t (.inl ht)), sJ (fun t ht => h t (.inr ht))]
  | slcS x a b =>
    simp only [fG, List.mem_append] at h
    simp only [aZ]
    rw [cG (fun t ht => h t (.inl (.inl ht))), pL (fun t ht => h t (.inl (.inr ht))), pL (fun t ht => h t (.inr ht))]
  | slc n x a b =>
    simp only [fG, List.mem_append] at h
    simp only [aZ]
    rw [cG (fun t ht => h t (.inl (.inl ht))), pL (fun t ht => h t (.inl (.inr ht))), pL (fun t ht => h t (.inr ht))]
  | pick a b c | mupd _ a b c | est a b c =>
    simp only [fG, List.mem_append] at h
    simp only [aZ]
    rw [cG (x := a) (fun t ht => h t (.inl (.inl ht))), cG (x := b) (fun t ht => h t (.inl (.inr ht))), cG (x := c) (fun t ht => h t (.inr ht))]
  | store _ a b | bin _ a b | eqb _ a b | eqp _ a b | eqs _ _ a b | iadr _ a b | idx a b | app _ _ _ a b | look _ _ _ a b | ment _ _ a b | ustr _ a b | appm _ _ a b | appz _ _ a b | stz _ a b | mks _ _ _ a b | mxn _ a b =>
    simp only [fG, List.mem_append] at h
    simp only [aZ]
    rw [cG (x := a) (fun t ht => h t (.inl ht)), cG (x := b) (fun t ht => h t (.inr ht))]
  | slc3 _ x a b c =>
    simp only [fG, List.mem_append] at h
    simp only [aZ]
    rw [cG (x := x) (fun t ht => h t (.inl (.inl (.inl ht)))), cG (x := a) (fun t ht => h t (.inl (.inl (.inr ht)))), cG (x := b) (fun t ht => h t (.inl (.inr ht))), cG (x := c) (fun t ht => h t (.inr ht))]
  | mov x | eqn _ _ x | clr _ _ x | box _ x | b2s x | i2s x | sdata x | pu x | up _ _ x | load _ x | nilchk x | un _ x | cvI _ x | cvS x | fadr _ x | fld _ _ x | ext x _ | len _ x | rng x | nxt x | ifc _ x =>
    simp only [fG] at h
    simp only [aZ]
    rw [cG (x := x) h]
  | nilb _ | new _ _ | mkmap | call _ _ _ _ | sc _ _ _ _ _ => rfl
theorem sI {op : AOp} (hp : cls op = .pure) {e : Env} {s s1 : St} {v : V} (h : aZ op e s = some (v, s1)) : s1 = s ∧ ∀ s', aZ op e s' = some (v, s') := by
  have mp : ∀ {x : Option V} {v : V} {s s1 : St}, (x.map fun u => (u, s)) = some (v, s1) → s1 = s ∧ ∀ s' : St, (x.map fun u => (u, s')) = some (v, s') := by
    intro x v s s1 h
    obtain ⟨u, hu, rfl, rfl⟩ := bI h
    exact ⟨rfl, fun s' => by rw [hu]; rfl⟩
  cases op with
  | mov x | cvS x | cvI k x | nilchk x | pick c a b | eqb n x y | eqn k n x | mkfn f a b | fadr o x | idx x i | ifc t x | iadr n x i | i2s x =>
    simp only [aZ] at h ⊢
    (repeat' split at h) <;> first
      | cases h; done
      | (simp only [Option.some.injEq, Prod.mk.injEq] at h
         obtain ⟨rfl, rfl⟩ := h
         refine ⟨rfl, fun s' => ?_⟩
         simp_all)
  | build z ps | bsl n z k ps | bin o x y | eqp n x y | eqs n k x y | un o x | slcS x a b | mxn m x y =>
    simp only [aZ] at h ⊢
    first
      | exact mp h
      | (obtain ⟨u, hu, rfl, rfl⟩ := bI h
         exact ⟨rfl, fun s' => by rw [hu]; rfl⟩)
  | fld o n x | ext x i =>
    simp only [aZ] at h ⊢
    split at h
    · exact mp h
    · cases h
  | b2s x =>
    simp only [aZ] at h ⊢
    split at h
    · obtain ⟨u, hu, rfl, rfl⟩ := bI h
      exact ⟨rfl, fun s' => by rw [hu]; rfl⟩
    · cases h
  | call o q f a => cases o <;> cases q <;> cases hp
  | len k x =>
    simp only [cls] at hp
    split at hp
    · rename_i hk
      simp only [aZ] at h ⊢
      match k, hk with
      | 0, _ =>
        simp only [fU] at h ⊢
        (repeat' split at h) <;> first
          | cases h; done
          | (simp only [Option.some.injEq, Prod.mk.injEq] at h
             obtain ⟨rfl, rfl⟩ := h
             refine ⟨rfl, fun s' => ?_⟩
             simp_all)
      | 1, _ =>
        simp only [fU] at h ⊢
        (repeat' split at h) <;> first
          | cases h; done
          | (simp only [Option.some.injEq, Prod.mk.injEq] at h
             obtain ⟨rfl, rfl⟩ := h
             refine ⟨rfl, fun s' => ?_⟩
             simp_all)
    · cases hp
  | _ => cases hp
