/-
 Regions: the evaluator's rows against the region's operations. No condition.
-/
import Derived.Test.YtboejpobmpfifaaGreatDoorEngD
set_option linter.unusedSimpArgs false
namespace Go.Proofs.YtboejpobmpfifaaGreatDoor.Eng
open Go Go.RowKit
section
variable {P : Program} {B : Nat} {w0 : World} {S : Sit}
theorem Then.trans {env1 env2 : Env} {s1 s2 : St} {a a1 a2 : Act} {ds1 ds2 : List Nat} {S1 S2 : Sit} (h : Then P B w0 S env1 s1 a ds1 S1 a1) (k : Then P B w0 S1 env2 s2 a1 ds2 S2 a2) :
  Then P B w0 S env2 s2 a (ds1 ++ ds2) S2 a2 where
 st := k.st
 inv := k.inv
 ext := h.ext.trans k.ext
 env := k.env
 size := k.size.trans h.size
 defers := k.defers.trans h.defers
 frame t ht := by
  simp only [List.mem_append, not_or] at ht
  exact (k.frame t ht.2).trans (h.frame t ht.1)
structure Skp (a : Act) (ds : List Nat) (a' : Act) : Prop where
 size : a'.tmps.size = a.tmps.size
 defers : a'.defers = a.defers
 frame : ∀ t, t ∉ ds → a'.tmps[t]? = a.tmps[t]?
theorem Skp.trans {a a1 a2 : Act} {ds1 ds2 : List Nat} (h : Skp a ds1 a1) (k : Skp a1 ds2 a2) : Skp a (ds1 ++ ds2) a2 where
 size := k.size.trans h.size
 defers := k.defers.trans h.defers
 frame t ht := by
  simp only [List.mem_append, not_or] at ht
  exact (k.frame t ht.2).trans (h.frame t ht.1)
theorem Skp.put (a : Act) (d : Option Nat) (c : Value) : Skp a d.toList (a.put d c) :=
 ⟨rT _ _ _, nP _ _ _, fun t ht => uE _ _ _ _ (fun q => ht (by rw [q]; simp))⟩
theorem Skp.env {env : Env} {a a' : Act} {ds : List Nat} (h : Skp a ds a') (hE : Qp S env a) : Qp S (kill env ds) a' := by
 intro t
 simp only [kill]
 split
 ·exact .junk _
 ·rename_i hc
  have : t ∉ ds := by simpa using hc
  rw [Array.getD_eq_getD_getElem?, h.frame t this, ← Array.getD_eq_getD_getElem?]
  exact hE t
theorem Uns.mono {g : Option (Nat × Bool)} {a a' : Act} {ds : List Nat} (h : Skp a ds a') (hg : ∀ q, g = some q → q.1 ∉ ds) (hu : Uns g a) : Uns g a' := by
 cases g with
 | none => exact hu
 | some q =>
  obtain ⟨t, want⟩ := q
  simp only [Uns] at hu ⊢
  rw [h.frame t (hg _ rfl)]
  exact hu
theorem Gk (a : Act) (t : Nat) (want : Bool) : Uns (some (t, want)) (a.put (some t) undef) := by
 simp only [Uns, Act.put]
 rw [Array.getElem?_setIfInBounds, if_pos rfl]
 split <;> simp [undef]
theorem aX {h : Hint} {ops : Array Oper} {n : Nat} {rest : List Nat} {Q : Exit → Act → World → Prop} {w : World} {d : Option Nat} {op : AOp} {g : Option (Nat × Bool)} {is : List Nat} {a : Act}
  (hs : Seg P h ops n is [⟨d, g, op⟩]) (hu : Uns g a) (k : ∀ a', Skp a d.toList a' → wpOps P ops Q rest a' w) : wpOps P ops Q (is ++ rest) a w := by
 cases is with
 | nil => exact hs.elim
 | cons i is =>
  obtain ⟨⟨o, ho, hc⟩, hs⟩ := hs
  cases is with
  | cons _ _ => exact hs.elim
  | nil => exact wG ho hc (f := ⟨d, g, op⟩) hu (k _ (Skp.put a d undef))
mutual
theorem Lm {h : Hint} {ops : Array Oper} {n : Nat} {rest : List Nat} {Q : Exit → Act → World → Prop} {w : World} : ∀ (r : Qx) (g : Option (Nat × Bool)) (is : List Nat) (a : Act), okR r = true →
  Seg P h ops n is (aJ g r) → Uns g a → (∀ q, g = some q → q.1 ∉ aG r) → (∀ a', Skp a (aG r) a' → wpOps P ops Q rest a' w) → wpOps P ops Q (is ++ rest) a w
 | .mk d (.sc t and x rows b), g, is, a, hok, hs, hu, hg, k => by
  simp only [okR, okO, Bool.and_eq_true, Bool.not_eq_true'] at hok
  have ht : t ∉ bQ rows := by simpa using hok.1
  simp only [aJ] at hs
  cases is with
  | nil => exact hs.elim
  | cons i is =>
   obtain ⟨⟨o, ho, hc⟩, hs⟩ := hs
   obtain ⟨i1, i2, rfl, hs1, hs2⟩ := hs.split
   cases i2 with
   | nil => exact hs2.elim
   | cons j i2 =>
    obtain ⟨⟨o', ho', hc'⟩, hs3⟩ := hs2
    cases i2 with
    | cons _ _ => exact hs3.elim
    | nil =>
     simp only [aG, aF, List.mem_append, List.mem_cons, not_or] at hg
     simp only [List.cons_append, List.append_assoc, List.nil_append]
     refine wG ho hc (f := ⟨some t, g, .mov x⟩) hu ?_
     have s1 : Skp a [t] (a.put (some t) undef) := Skp.put a (some t) undef
     refine HY rows (some (t, and)) i1 _ hok.2 hs1 (Gk a t and) (by rintro q ⟨⟩; exact ht) ?_
     intro a2 s2
     have s12 := s1.trans s2
     have hu2 : Uns g a2 := hu.mono s12 (fun q hq => by
      have := hg q hq
      simp only [List.cons_append, List.nil_append, List.mem_cons, not_or]
      exact this.2)
     refine wG ho' hc' (f := ⟨d, g, _⟩) hu2 ?_
     refine k _ ?_
     have s3 := s12.trans (Skp.put a2 d undef)
     refine ⟨s3.size, s3.defers, fun u hu' => s3.frame u ?_⟩
     simp only [aG, aF, List.mem_append, List.mem_cons, not_or] at hu'
     simp only [List.cons_append, List.nil_append, List.mem_append, List.mem_cons, not_or]
     exact ⟨hu'.2.1, hu'.2.2, hu'.1⟩
 | .mk d (.mov x0), g, is, a, _, hs, hu, _, k => aX (op := .mov x0) (by simpa only [aJ] using hs) hu (by simpa only [aG, aF, List.append_nil] using k)
 | .mk d (.nilb x0), g, is, a, _, hs, hu, _, k => aX (op := .nilb x0) (by simpa only [aJ] using hs) hu (by simpa only [aG, aF, List.append_nil] using k)
 | .mk d (.pick x0 x1 x2), g, is, a, _, hs, hu, _, k => aX (op := .pick x0 x1 x2) (by simpa only [aJ] using hs) hu (by simpa only [aG, aF, List.append_nil] using k)
 | .mk d (.new x0 x1), g, is, a, _, hs, hu, _, k => aX (op := .new x0 x1) (by simpa only [aJ] using hs) hu (by simpa only [aG, aF, List.append_nil] using k)
 | .mk d (.box x0 x1), g, is, a, _, hs, hu, _, k => aX (op := .box x0 x1) (by simpa only [aJ] using hs) hu (by simpa only [aG, aF, List.append_nil] using k)
 | .mk d (.build x0 x1), g, is, a, _, hs, hu, _, k => aX (op := .build x0 x1) (by simpa only [aJ] using hs) hu (by simpa only [aG, aF, List.append_nil] using k)
 | .mk d (.bsl x0 x1 x2 x3), g, is, a, _, hs, hu, _, k => aX (op := .bsl x0 x1 x2 x3) (by simpa only [aJ] using hs) hu (by simpa only [aG, aF, List.append_nil] using k)
 | .mk d (.load x0 x1), g, is, a, _, hs, hu, _, k => aX (op := .load x0 x1) (by simpa only [aJ] using hs) hu (by simpa only [aG, aF, List.append_nil] using k)
 | .mk d (.store x0 x1 x2), g, is, a, _, hs, hu, _, k => aX (op := .store x0 x1 x2) (by simpa only [aJ] using hs) hu (by simpa only [aG, aF, List.append_nil] using k)
 | .mk d (.nilchk x0), g, is, a, _, hs, hu, _, k => aX (op := .nilchk x0) (by simpa only [aJ] using hs) hu (by simpa only [aG, aF, List.append_nil] using k)
 | .mk d (.bin x0 x1 x2), g, is, a, _, hs, hu, _, k => aX (op := .bin x0 x1 x2) (by simpa only [aJ] using hs) hu (by simpa only [aG, aF, List.append_nil] using k)
 | .mk d (.eqb x0 x1 x2), g, is, a, _, hs, hu, _, k => aX (op := .eqb x0 x1 x2) (by simpa only [aJ] using hs) hu (by simpa only [aG, aF, List.append_nil] using k)
 | .mk d (.eqp x0 x1 x2), g, is, a, _, hs, hu, _, k => aX (op := .eqp x0 x1 x2) (by simpa only [aJ] using hs) hu (by simpa only [aG, aF, List.append_nil] using k)
 | .mk d (.eqs x0 x1 x2 x3), g, is, a, _, hs, hu, _, k => aX (op := .eqs x0 x1 x2 x3) (by simpa only [aJ] using hs) hu (by simpa only [aG, aF, List.append_nil] using k)
 | .mk d (.eqn x0 x1 x2), g, is, a, _, hs, hu, _, k => aX (op := .eqn x0 x1 x2) (by simpa only [aJ] using hs) hu (by simpa only [aG, aF, List.append_nil] using k)
 | .mk d (.un x0 x1), g, is, a, _, hs, hu, _, k => aX (op := .un x0 x1) (by simpa only [aJ] using hs) hu (by simpa only [aG, aF, List.append_nil] using k)
 | .mk d (.cvI x0 x1), g, is, a, _, hs, hu, _, k => aX (op := .cvI x0 x1) (by simpa only [aJ] using hs) hu (by simpa only [aG, aF, List.append_nil] using k)
 | .mk d (.cvS x0), g, is, a, _, hs, hu, _, k => aX (op := .cvS x0) (by simpa only [aJ] using hs) hu (by simpa only [aG, aF, List.append_nil] using k)
 | .mk d (.mkfn x0 x1 x2), g, is, a, _, hs, hu, _, k => aX (op := .mkfn x0 x1 x2) (by simpa only [aJ] using hs) hu (by simpa only [aG, aF, List.append_nil] using k)
 | .mk d (.mkmap), g, is, a, _, hs, hu, _, k => aX (op := .mkmap) (by simpa only [aJ] using hs) hu (by simpa only [aG, aF, List.append_nil] using k)
 | .mk d (.slcS x0 x1 x2), g, is, a, _, hs, hu, _, k => aX (op := .slcS x0 x1 x2) (by simpa only [aJ] using hs) hu (by simpa only [aG, aF, List.append_nil] using k)
 | .mk d (.slc x0 x1 x2 x3), g, is, a, _, hs, hu, _, k => aX (op := .slc x0 x1 x2 x3) (by simpa only [aJ] using hs) hu (by simpa only [aG, aF, List.append_nil] using k)
 | .mk d (.fadr x0 x1), g, is, a, _, hs, hu, _, k => aX (op := .fadr x0 x1) (by simpa only [aJ] using hs) hu (by simpa only [aG, aF, List.append_nil] using k)
 | .mk d (.fld x0 x1 x2), g, is, a, _, hs, hu, _, k => aX (op := .fld x0 x1 x2) (by simpa only [aJ] using hs) hu (by simpa only [aG, aF, List.append_nil] using k)
 | .mk d (.iadr x0 x1 x2), g, is, a, _, hs, hu, _, k => aX (op := .iadr x0 x1 x2) (by simpa only [aJ] using hs) hu (by simpa only [aG, aF, List.append_nil] using k)
 | .mk d (.idx x0 x1), g, is, a, _, hs, hu, _, k => aX (op := .idx x0 x1) (by simpa only [aJ] using hs) hu (by simpa only [aG, aF, List.append_nil] using k)
 | .mk d (.ext x0 x1), g, is, a, _, hs, hu, _, k => aX (op := .ext x0 x1) (by simpa only [aJ] using hs) hu (by simpa only [aG, aF, List.append_nil] using k)
 | .mk d (.len x0 x1), g, is, a, _, hs, hu, _, k => aX (op := .len x0 x1) (by simpa only [aJ] using hs) hu (by simpa only [aG, aF, List.append_nil] using k)
 | .mk d (.app x0 x1 x2 x3 x4), g, is, a, _, hs, hu, _, k => aX (op := .app x0 x1 x2 x3 x4) (by simpa only [aJ] using hs) hu (by simpa only [aG, aF, List.append_nil] using k)
 | .mk d (.appm x0 x1 x2 x3), g, is, a, _, hs, hu, _, k => aX (op := .appm x0 x1 x2 x3) (by simpa only [aJ] using hs) hu (by simpa only [aG, aF, List.append_nil] using k)
 | .mk d (.appz x0 x1 x2 x3), g, is, a, _, hs, hu, _, k => aX (op := .appz x0 x1 x2 x3) (by simpa only [aJ] using hs) hu (by simpa only [aG, aF, List.append_nil] using k)
 | .mk d (.stz x0 x1 x2), g, is, a, _, hs, hu, _, k => aX (op := .stz x0 x1 x2) (by simpa only [aJ] using hs) hu (by simpa only [aG, aF, List.append_nil] using k)
 | .mk d (.mks x0 x1 x2 x3 x4), g, is, a, _, hs, hu, _, k => aX (op := .mks x0 x1 x2 x3 x4) (by simpa only [aJ] using hs) hu (by simpa only [aG, aF, List.append_nil] using k)
 | .mk d (.slc3 x0 x1 x2 x3 x4), g, is, a, _, hs, hu, _, k => aX (op := .slc3 x0 x1 x2 x3 x4) (by simpa only [aJ] using hs) hu (by simpa only [aG, aF, List.append_nil] using k)
 | .mk d (.clr x0 x1 x2), g, is, a, _, hs, hu, _, k => aX (op := .clr x0 x1 x2) (by simpa only [aJ] using hs) hu (by simpa only [aG, aF, List.append_nil] using k)
 | .mk d (.mxn x0 x1 x2), g, is, a, _, hs, hu, _, k => aX (op := .mxn x0 x1 x2) (by simpa only [aJ] using hs) hu (by simpa only [aG, aF, List.append_nil] using k)
 | .mk d (.look x0 x1 x2 x3 x4), g, is, a, _, hs, hu, _, k => aX (op := .look x0 x1 x2 x3 x4) (by simpa only [aJ] using hs) hu (by simpa only [aG, aF, List.append_nil] using k)
 | .mk d (.mupd x0 x1 x2 x3), g, is, a, _, hs, hu, _, k => aX (op := .mupd x0 x1 x2 x3) (by simpa only [aJ] using hs) hu (by simpa only [aG, aF, List.append_nil] using k)
 | .mk d (.ment x0 x1 x2 x3), g, is, a, _, hs, hu, _, k => aX (op := .ment x0 x1 x2 x3) (by simpa only [aJ] using hs) hu (by simpa only [aG, aF, List.append_nil] using k)
 | .mk d (.est x0 x1 x2), g, is, a, _, hs, hu, _, k => aX (op := .est x0 x1 x2) (by simpa only [aJ] using hs) hu (by simpa only [aG, aF, List.append_nil] using k)
 | .mk d (.rng x0), g, is, a, _, hs, hu, _, k => aX (op := .rng x0) (by simpa only [aJ] using hs) hu (by simpa only [aG, aF, List.append_nil] using k)
 | .mk d (.nxt x0), g, is, a, _, hs, hu, _, k => aX (op := .nxt x0) (by simpa only [aJ] using hs) hu (by simpa only [aG, aF, List.append_nil] using k)
 | .mk d (.ifc x0 x1), g, is, a, _, hs, hu, _, k => aX (op := .ifc x0 x1) (by simpa only [aJ] using hs) hu (by simpa only [aG, aF, List.append_nil] using k)
 | .mk d (.b2s x0), g, is, a, _, hs, hu, _, k => aX (op := .b2s x0) (by simpa only [aJ] using hs) hu (by simpa only [aG, aF, List.append_nil] using k)
 | .mk d (.i2s x0), g, is, a, _, hs, hu, _, k => aX (op := .i2s x0) (by simpa only [aJ] using hs) hu (by simpa only [aG, aF, List.append_nil] using k)
 | .mk d (.sdata x0), g, is, a, _, hs, hu, _, k => aX (op := .sdata x0) (by simpa only [aJ] using hs) hu (by simpa only [aG, aF, List.append_nil] using k)
 | .mk d (.ustr x0 x1 x2), g, is, a, _, hs, hu, _, k => aX (op := .ustr x0 x1 x2) (by simpa only [aJ] using hs) hu (by simpa only [aG, aF, List.append_nil] using k)
 | .mk d (.pu x0), g, is, a, _, hs, hu, _, k => aX (op := .pu x0) (by simpa only [aJ] using hs) hu (by simpa only [aG, aF, List.append_nil] using k)
 | .mk d (.up x0 x1 x2), g, is, a, _, hs, hu, _, k => aX (op := .up x0 x1 x2) (by simpa only [aJ] using hs) hu (by simpa only [aG, aF, List.append_nil] using k)
 | .mk d (.call x0 x1 x2 x3), g, is, a, _, hs, hu, _, k => aX (op := .call x0 x1 x2 x3) (by simpa only [aJ] using hs) hu (by simpa only [aG, aF, List.append_nil] using k)
theorem HY {h : Hint} {ops : Array Oper} {n : Nat} {rest : List Nat} {Q : Exit → Act → World → Prop} {w : World} : ∀ (rows : List Qx) (g : Option (Nat × Bool)) (is : List Nat) (a : Act), okL rows = true →
  Seg P h ops n is (lI g rows) → Uns g a → (∀ q, g = some q → q.1 ∉ bQ rows) → (∀ a', Skp a (bQ rows) a' → wpOps P ops Q rest a' w) → wpOps P ops Q (is ++ rest) a w
 | [], g, is, a, _, hs, _, _, k => by
  cases is with
  | nil => exact k a ⟨rfl, rfl, fun _ _ => rfl⟩
  | cons _ _ => exact hs.elim
 | r :: rs, g, is, a, hok, hs, hu, hg, k => by
  simp only [okL, Bool.and_eq_true] at hok
  simp only [lI] at hs
  obtain ⟨i1, i2, rfl, hs1, hs2⟩ := hs.split
  simp only [bQ, List.mem_append, not_or] at hg
  rw [List.append_assoc]
  refine Lm r g i1 a hok.1 hs1 hu (fun q hq => (hg q hq).1) ?_
  intro a1 s1
  refine HY rs g i2 a1 hok.2 hs2 (hu.mono s1 (fun q hq => (hg q hq).1)) (fun q hq => (hg q hq).2) ?_
  intro a2 s2
  exact k a2 (by have := s1.trans s2; simpa only [bQ] using this)
end
end
