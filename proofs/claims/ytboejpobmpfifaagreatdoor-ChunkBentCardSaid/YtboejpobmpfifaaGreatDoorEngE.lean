/-
  Regions: the evaluator's rows against the region's operations. No condition.
-/
import Derived.Test.YtboejpobmpfifaaGreatDoorEngD
namespace Go.Proofs.YtboejpobmpfifaaGreatDoor.Eng
open Go Go.RowKit
set_option linter.unusedSimpArgs false

section
variable {P : Program} {B : Nat} {w0 : World} {S : Sit}

theorem Then.trans {env1 env2 : Env} {s1 s2 : St} {a a1 a2 : Act} {ds1 ds2 : List Nat} {S1 S2 : Sit} (h : Then P B w0 S env1 s1 a ds1 S1 a1) (k : Then P B w0 S1 env2 s2 a1 ds2 S2 a2) :
    Then P B w0 S env2 s2 a (ds1 ++ ds2) S2 a2 where
  st := k.st
  inv := k.inv
  ext := h.ext.trans k.ext
  env := k.env
  size := k.size.trans h.size
  defers := k.defers.trans h.defers
  frame t ht := by
    simp only [List.mem_append, not_or] at ht
    exact (k.frame t ht.2).trans (h.frame t ht.1)

/-- Rows passed by. -/
structure Skp (a : Act) (ds : List Nat) (a' : Act) : Prop where
  size : a'.tmps.size = a.tmps.size
  defers : a'.defers = a.defers
  frame : ∀ t, t ∉ ds → a'.tmps[t]? = a.tmps[t]?

theorem Skp.trans {a a1 a2 : Act} {ds1 ds2 : List Nat} (h : Skp a ds1 a1) (k : Skp a1 ds2 a2) : Skp a (ds1 ++ ds2) a2 where
  size := k.size.trans h.size
  defers := k.defers.trans h.defers
  frame t ht := by
    simp only [List.mem_append, not_or] at ht
    exact (k.frame t ht.2).trans (h.frame t ht.1)

theorem Skp.put (a : Act) (d : Option Nat) (c : Value) : Skp a d.toList (a.put d c) :=
  ⟨put_size _ _ _, put_defers _ _ _, fun t ht => put_get _ _ _ _ (fun q => ht (by rw [q]; simp))⟩

theorem Skp.env {env : Env} {a a' : Act} {ds : List Nat} (h : Skp a ds a') (hE : EnvOk S env a) : EnvOk S (kill env ds) a' := by
  intro t
  simp only [kill]
  split
  · exact .junk _
  · rename_i hc
    have : t ∉ ds := by simpa using hc
    rw [Array.getD_eq_getD_getElem?, h.frame t this, ← Array.getD_eq_getD_getElem?]
    exact hE t

theorem Uns.mono {g : Option (Nat × Bool)} {a a' : Act} {ds : List Nat} (h : Skp a ds a') (hg : ∀ q, g = some q → q.1 ∉ ds) (hu : Uns g a) : Uns g a' := by
  cases g with
  | none => exact hu
  | some q =>
    obtain ⟨t, want⟩ := q
    simp only [Uns] at hu ⊢
    rw [h.frame t (hg _ rfl)]
    exact hu

theorem uns_undef (a : Act) (t : Nat) (want : Bool) : Uns (some (t, want)) (a.put (some t) undef) := by
  simp only [Uns, Act.put]
  rw [Array.getElem?_setIfInBounds, if_pos rfl]
  split <;> simp [undef]

theorem skip_op {h : Hint} {ops : Array Oper} {n : Nat} {rest : List Nat} {Q : Exit → Act → World → Prop} {w : World} {d : Option Nat} {op : AOp} {g : Option (Nat × Bool)} {is : List Nat} {a : Act}
    (hs : Seg P h ops n is [⟨d, g, op⟩]) (hu : Uns g a) (k : ∀ a', Skp a d.toList a' → wpOps P ops Q rest a' w) : wpOps P ops Q (is ++ rest) a w := by
  cases is with
  | nil => exact hs.elim
  | cons i is =>
    obtain ⟨⟨o, ho, hc⟩, hs⟩ := hs
    cases is with
    | cons _ _ => exact hs.elim
    | nil => exact row_skip ho hc (f := ⟨d, g, op⟩) hu (k _ (Skp.put a d undef))

mutual
theorem skipR {h : Hint} {ops : Array Oper} {n : Nat} {rest : List Nat} {Q : Exit → Act → World → Prop} {w : World} : ∀ (r : ARow) (g : Option (Nat × Bool)) (is : List Nat) (a : Act), okR r = true →
    Seg P h ops n is (flatR g r) → Uns g a → (∀ q, g = some q → q.1 ∉ dstsR r) → (∀ a', Skp a (dstsR r) a' → wpOps P ops Q rest a' w) → wpOps P ops Q (is ++ rest) a w
  | .mk d (.sc t and x rows b), g, is, a, hok, hs, hu, hg, k => by
    simp only [okR, okO, Bool.and_eq_true, Bool.not_eq_true'] at hok
    have ht : t ∉ dstsL rows := by simpa using hok.1
    simp only [flatR] at hs
    cases is with
    | nil => exact hs.elim
    | cons i is =>
      obtain ⟨⟨o, ho, hc⟩, hs⟩ := hs
      obtain ⟨i1, i2, rfl, hs1, hs2⟩ := hs.split
      cases i2 with
      | nil => exact hs2.elim
      | cons j i2 =>
        obtain ⟨⟨o', ho', hc'⟩, hs3⟩ := hs2
        cases i2 with
        | cons _ _ => exact hs3.elim
        | nil =>
          simp only [dstsR, dstsO, List.mem_append, List.mem_cons, not_or] at hg
          simp only [List.cons_append, List.append_assoc, List.nil_append]
          refine row_skip ho hc (f := ⟨some t, g, .mov x⟩) hu ?_
          have s1 : Skp a [t] (a.put (some t) undef) := Skp.put a (some t) undef
          refine skipL rows (some (t, and)) i1 _ hok.2 hs1 (uns_undef a t and) (by rintro q ⟨⟩; exact ht) ?_
          intro a2 s2
          have s12 := s1.trans s2
          have hu2 : Uns g a2 := hu.mono s12 (fun q hq => by
            have := hg q hq
            simp only [List.cons_append, List.nil_append, List.mem_cons, not_or]
            exact this.2)
          refine row_skip ho' hc' (f := ⟨d, g, _⟩) hu2 ?_
          refine k _ ?_
          have s3 := s12.trans (Skp.put a2 d undef)
          refine ⟨s3.size, s3.defers, fun u hu' => s3.frame u ?_⟩
          simp only [dstsR, dstsO, List.mem_append, List.mem_cons, not_or] at hu'
          simp only [List.cons_append, List.nil_append, List.mem_append, List.mem_cons, not_or]
          exact ⟨hu'.2.1, hu'.2.2, hu'.1⟩
  | .mk d (.mov x0), g, is, a, _, hs, hu, _, k => skip_op (op := .mov x0) (by simpa only [flatR] using hs) hu (by simpa only [dstsR, dstsO, List.append_nil] using k)
  | .mk d (.nilb x0), g, is, a, _, hs, hu, _, k => skip_op (op := .nilb x0) (by simpa only [flatR] using hs) hu (by simpa only [dstsR, dstsO, List.append_nil] using k)
  | .mk d (.pick x0 x1 x2), g, is, a, _, hs, hu, _, k => skip_op (op := .pick x0 x1 x2) (by simpa only [flatR] using hs) hu (by simpa only [dstsR, dstsO, List.append_nil] using k)
  | .mk d (.new x0 x1), g, is, a, _, hs, hu, _, k => skip_op (op := .new x0 x1) (by simpa only [flatR] using hs) hu (by simpa only [dstsR, dstsO, List.append_nil] using k)
  | .mk d (.box x0 x1), g, is, a, _, hs, hu, _, k => skip_op (op := .box x0 x1) (by simpa only [flatR] using hs) hu (by simpa only [dstsR, dstsO, List.append_nil] using k)
  | .mk d (.build x0 x1), g, is, a, _, hs, hu, _, k => skip_op (op := .build x0 x1) (by simpa only [flatR] using hs) hu (by simpa only [dstsR, dstsO, List.append_nil] using k)
  | .mk d (.bsl x0 x1 x2 x3), g, is, a, _, hs, hu, _, k => skip_op (op := .bsl x0 x1 x2 x3) (by simpa only [flatR] using hs) hu (by simpa only [dstsR, dstsO, List.append_nil] using k)
  | .mk d (.load x0 x1), g, is, a, _, hs, hu, _, k => skip_op (op := .load x0 x1) (by simpa only [flatR] using hs) hu (by simpa only [dstsR, dstsO, List.append_nil] using k)
  | .mk d (.store x0 x1 x2), g, is, a, _, hs, hu, _, k => skip_op (op := .store x0 x1 x2) (by simpa only [flatR] using hs) hu (by simpa only [dstsR, dstsO, List.append_nil] using k)
  | .mk d (.nilchk x0), g, is, a, _, hs, hu, _, k => skip_op (op := .nilchk x0) (by simpa only [flatR] using hs) hu (by simpa only [dstsR, dstsO, List.append_nil] using k)
  | .mk d (.bin x0 x1 x2), g, is, a, _, hs, hu, _, k => skip_op (op := .bin x0 x1 x2) (by simpa only [flatR] using hs) hu (by simpa only [dstsR, dstsO, List.append_nil] using k)
  | .mk d (.eqb x0 x1 x2), g, is, a, _, hs, hu, _, k => skip_op (op := .eqb x0 x1 x2) (by simpa only [flatR] using hs) hu (by simpa only [dstsR, dstsO, List.append_nil] using k)
  | .mk d (.eqp x0 x1 x2), g, is, a, _, hs, hu, _, k => skip_op (op := .eqp x0 x1 x2) (by simpa only [flatR] using hs) hu (by simpa only [dstsR, dstsO, List.append_nil] using k)
  | .mk d (.eqs x0 x1 x2 x3), g, is, a, _, hs, hu, _, k => skip_op (op := .eqs x0 x1 x2 x3) (by simpa only [flatR] using hs) hu (by simpa only [dstsR, dstsO, List.append_nil] using k)
  | .mk d (.eqn x0 x1 x2), g, is, a, _, hs, hu, _, k => skip_op (op := .eqn x0 x1 x2) (by simpa only [flatR] using hs) hu (by simpa only [dstsR, dstsO, List.append_nil] using k)
  | .mk d (.un x0 x1), g, is, a, _, hs, hu, _, k => skip_op (op := .un x0 x1) (by simpa only [flatR] using hs) hu (by simpa only [dstsR, dstsO, List.append_nil] using k)
  | .mk d (.cvI x0 x1), g, is, a, _, hs, hu, _, k => skip_op (op := .cvI x0 x1) (by simpa only [flatR] using hs) hu (by simpa only [dstsR, dstsO, List.append_nil] using k)
  | .mk d (.cvS x0), g, is, a, _, hs, hu, _, k => skip_op (op := .cvS x0) (by simpa only [flatR] using hs) hu (by simpa only [dstsR, dstsO, List.append_nil] using k)
  | .mk d (.mkfn x0 x1 x2), g, is, a, _, hs, hu, _, k => skip_op (op := .mkfn x0 x1 x2) (by simpa only [flatR] using hs) hu (by simpa only [dstsR, dstsO, List.append_nil] using k)
  | .mk d (.mkmap), g, is, a, _, hs, hu, _, k => skip_op (op := .mkmap) (by simpa only [flatR] using hs) hu (by simpa only [dstsR, dstsO, List.append_nil] using k)
  | .mk d (.slcS x0 x1 x2), g, is, a, _, hs, hu, _, k => skip_op (op := .slcS x0 x1 x2) (by simpa only [flatR] using hs) hu (by simpa only [dstsR, dstsO, List.append_nil] using k)
  | .mk d (.slc x0 x1 x2 x3), g, is, a, _, hs, hu, _, k => skip_op (op := .slc x0 x1 x2 x3) (by simpa only [flatR] using hs) hu (by simpa only [dstsR, dstsO, List.append_nil] using k)
  | .mk d (.fadr x0 x1), g, is, a, _, hs, hu, _, k => skip_op (op := .fadr x0 x1) (by simpa only [flatR] using hs) hu (by simpa only [dstsR, dstsO, List.append_nil] using k)
  | .mk d (.fld x0 x1 x2), g, is, a, _, hs, hu, _, k => skip_op (op := .fld x0 x1 x2) (by simpa only [flatR] using hs) hu (by simpa only [dstsR, dstsO, List.append_nil] using k)
  | .mk d (.iadr x0 x1 x2), g, is, a, _, hs, hu, _, k => skip_op (op := .iadr x0 x1 x2) (by simpa only [flatR] using hs) hu (by simpa only [dstsR, dstsO, List.append_nil] using k)
  | .mk d (.idx x0 x1), g, is, a, _, hs, hu, _, k => skip_op (op := .idx x0 x1) (by simpa only [flatR] using hs) hu (by simpa only [dstsR, dstsO, List.append_nil] using k)
  | .mk d (.ext x0 x1), g, is, a, _, hs, hu, _, k => skip_op (op := .ext x0 x1) (by simpa only [flatR] using hs) hu (by simpa only [dstsR, dstsO, List.append_nil] using k)
  | .mk d (.len x0 x1), g, is, a, _, hs, hu, _, k => skip_op (op := .len x0 x1) (by simpa only [flatR] using hs) hu (by simpa only [dstsR, dstsO, List.append_nil] using k)
  | .mk d (.app x0 x1 x2 x3 x4), g, is, a, _, hs, hu, _, k => skip_op (op := .app x0 x1 x2 x3 x4) (by simpa only [flatR] using hs) hu (by simpa only [dstsR, dstsO, List.append_nil] using k)
  | .mk d (.appm x0 x1 x2 x3), g, is, a, _, hs, hu, _, k => skip_op (op := .appm x0 x1 x2 x3) (by simpa only [flatR] using hs) hu (by simpa only [dstsR, dstsO, List.append_nil] using k)
  | .mk d (.appz x0 x1 x2 x3), g, is, a, _, hs, hu, _, k => skip_op (op := .appz x0 x1 x2 x3) (by simpa only [flatR] using hs) hu (by simpa only [dstsR, dstsO, List.append_nil] using k)
  | .mk d (.stz x0 x1 x2), g, is, a, _, hs, hu, _, k => skip_op (op := .stz x0 x1 x2) (by simpa only [flatR] using hs) hu (by simpa only [dstsR, dstsO, List.append_nil] using k)
  | .mk d (.mks x0 x1 x2 x3 x4), g, is, a, _, hs, hu, _, k => skip_op (op := .mks x0 x1 x2 x3 x4) (by simpa only [flatR] using hs) hu (by simpa only [dstsR, dstsO, List.append_nil] using k)
  | .mk d (.slc3 x0 x1 x2 x3 x4), g, is, a, _, hs, hu, _, k => skip_op (op := .slc3 x0 x1 x2 x3 x4) (by simpa only [flatR] using hs) hu (by simpa only [dstsR, dstsO, List.append_nil] using k)
  | .mk d (.clr x0 x1 x2), g, is, a, _, hs, hu, _, k => skip_op (op := .clr x0 x1 x2) (by simpa only [flatR] using hs) hu (by simpa only [dstsR, dstsO, List.append_nil] using k)
  | .mk d (.mxn x0 x1 x2), g, is, a, _, hs, hu, _, k => skip_op (op := .mxn x0 x1 x2) (by simpa only [flatR] using hs) hu (by simpa only [dstsR, dstsO, List.append_nil] using k)
  | .mk d (.look x0 x1 x2 x3 x4), g, is, a, _, hs, hu, _, k => skip_op (op := .look x0 x1 x2 x3 x4) (by simpa only [flatR] using hs) hu (by simpa only [dstsR, dstsO, List.append_nil] using k)
  | .mk d (.mupd x0 x1 x2 x3), g, is, a, _, hs, hu, _, k => skip_op (op := .mupd x0 x1 x2 x3) (by simpa only [flatR] using hs) hu (by simpa only [dstsR, dstsO, List.append_nil] using k)
  | .mk d (.ment x0 x1 x2 x3), g, is, a, _, hs, hu, _, k => skip_op (op := .ment x0 x1 x2 x3) (by simpa only [flatR] using hs) hu (by simpa only [dstsR, dstsO, List.append_nil] using k)
  | .mk d (.est x0 x1 x2), g, is, a, _, hs, hu, _, k => skip_op (op := .est x0 x1 x2) (by simpa only [flatR] using hs) hu (by simpa only [dstsR, dstsO, List.append_nil] using k)
  | .mk d (.rng x0), g, is, a, _, hs, hu, _, k => skip_op (op := .rng x0) (by simpa only [flatR] using hs) hu (by simpa only [dstsR, dstsO, List.append_nil] using k)
  | .mk d (.nxt x0), g, is, a, _, hs, hu, _, k => skip_op (op := .nxt x0) (by simpa only [flatR] using hs) hu (by simpa only [dstsR, dstsO, List.append_nil] using k)
  | .mk d (.ifc x0 x1), g, is, a, _, hs, hu, _, k => skip_op (op := .ifc x0 x1) (by simpa only [flatR] using hs) hu (by simpa only [dstsR, dstsO, List.append_nil] using k)
  | .mk d (.b2s x0), g, is, a, _, hs, hu, _, k => skip_op (op := .b2s x0) (by simpa only [flatR] using hs) hu (by simpa only [dstsR, dstsO, List.append_nil] using k)
  | .mk d (.i2s x0), g, is, a, _, hs, hu, _, k => skip_op (op := .i2s x0) (by simpa only [flatR] using hs) hu (by simpa only [dstsR, dstsO, List.append_nil] using k)
  | .mk d (.sdata x0), g, is, a, _, hs, hu, _, k => skip_op (op := .sdata x0) (by simpa only [flatR] using hs) hu (by simpa only [dstsR, dstsO, List.append_nil] using k)
  | .mk d (.ustr x0 x1 x2), g, is, a, _, hs, hu, _, k => skip_op (op := .ustr x0 x1 x2) (by simpa only [flatR] using hs) hu (by simpa only [dstsR, dstsO, List.append_nil] using k)
  | .mk d (.pu x0), g, is, a, _, hs, hu, _, k => skip_op (op := .pu x0) (by simpa only [flatR] using hs) hu (by simpa only [dstsR, dstsO, List.append_nil] using k)
  | .mk d (.up x0 x1 x2), g, is, a, _, hs, hu, _, k => skip_op (op := .up x0 x1 x2) (by simpa only [flatR] using hs) hu (by simpa only [dstsR, dstsO, List.append_nil] using k)
  | .mk d (.call x0 x1 x2 x3), g, is, a, _, hs, hu, _, k => skip_op (op := .call x0 x1 x2 x3) (by simpa only [flatR] using hs) hu (by simpa only [dstsR, dstsO, List.append_nil] using k)
theorem skipL {h : Hint} {ops : Array Oper} {n : Nat} {rest : List Nat} {Q : Exit → Act → World → Prop} {w : World} : ∀ (rows : List ARow) (g : Option (Nat × Bool)) (is : List Nat) (a : Act), okL rows = true →
    Seg P h ops n is (flatL g rows) → Uns g a → (∀ q, g = some q → q.1 ∉ dstsL rows) → (∀ a', Skp a (dstsL rows) a' → wpOps P ops Q rest a' w) → wpOps P ops Q (is ++ rest) a w
  | [], g, is, a, _, hs, _, _, k => by
    cases is with
    | nil => exact k a ⟨rfl, rfl, fun _ _ => rfl⟩
    | cons _ _ => exact hs.elim
  | r :: rs, g, is, a, hok, hs, hu, hg, k => by
    simp only [okL, Bool.and_eq_true] at hok
    simp only [flatL] at hs
    obtain ⟨i1, i2, rfl, hs1, hs2⟩ := hs.split
    simp only [dstsL, List.mem_append, not_or] at hg
    rw [List.append_assoc]
    refine skipR r g i1 a hok.1 hs1 hu (fun q hq => (hg q hq).1) ?_
    intro a1 s1
    refine skipL rs g i2 a1 hok.2 hs2 (hu.mono s1 (fun q hq => (hg q hq).1)) (fun q hq => (hg q hq).2) ?_
    intro a2 s2
    exact k a2 (by have := s1.trans s2; simpa only [dstsL] using this)
end

end
end Go.Proofs.YtboejpobmpfifaaGreatDoor.Eng
