/-
 A reader is asked; the statement LitReads over texts. No condition.
-/
import Derived.Test.YtboejpobmpfifaaGreatDoorLRefs
set_option linter.unusedSimpArgs false
set_option linter.unusedVariables false
namespace Go.Proofs.YtboejpobmpfifaaGreatDoor.Eng
open Go
attribute [local simp] gS gR eT eN dR eV cY cW eU dQ dP eF eS dL cC dU cZ cN dM cA bX cV bW
attribute [local simp] hZ aZ put dB X.ev cF cO cP cS bU dO cR bV dN cQ eR gH kV bM fL gT fE gB V.plain aW V.und bY scK kill aF bQ aG dT dS cT mB bR fU V.real bH bK cU
attribute [local simp] eK iE fH iX dY dX fS fR
section
variable {c : Bool} {r : Nat} {R : Qk} {s : St} {z : Int}
theorem wT (z : Int) : (∃ d : Nat, z = d ∧ z.toNat = d) ∨ (z < 1 ∧ z.toNat = 0) := by
 by_cases h : 0 ≤ z
 ·exact .inl ⟨z.toNat, by omega, rfl⟩
 ·exact .inr ⟨by omega, by omega⟩
theorem Ll (hz : z ≤ 1000) {q : Qj} (hf : q.fine) (s : St) : ∃ q' : Qj, call G 132 [rrV q, .int .i64 z, .bool c] s = some (.tup [rrV q', toV (fzV (Qk.val c z.toNat q.rs))], s) ∧ q'.rs = (Qk.val c z.toNat q.rs).1 ∧ q'.ok ∧ q'.L = q.L := by
 rcases wT z with ⟨d, h1, h2⟩ | ⟨h1, h2⟩
 ·rw [h2, h1]
  exact BR c d (by omega) q hf s
 ·rw [h2, Qk.val]
  by_cases ho : q.rs.over = true
  ·rw [if_pos ho]
   refine ⟨q.form, ?_, nW q, gI hf.ok _ _, rH q⟩
   rw [lL vE]
   exact sW hf.ok ho s
  ·rw [if_neg ho]
   refine ⟨q.fail q.rs.at_ 5, ?_, pY q _ _, gI hf.ok _ _, pM _ _ _⟩
   rw [lL (iC (by decide))]
   exact yQ hf.ok (by simpa using ho) h1 s
theorem valZ (hz : z ≤ 1000) (ht : R.tame) (hbas : ∀ o ∈ s.obs.take (r + 1), o.und (r + 1) 0 = true ∧ o.kind ≠ 4) (hs : s.obs[r]? = some (rdO R)) :
  ∃ ex, call G 211 [.ptr r 0, .int .i64 z, .bool c] s = some (toV (Qk.val c z.toNat R).2, ⟨s.obs.set r (rdO (Qk.val c z.toNat R).1), s.bufs ++ ex⟩) := by
 rcases wT z with ⟨d, h1, h2⟩ | ⟨h1, h2⟩
 ·rw [h2, h1]
  exact EM c d (by omega) R s r ht hbas hs
 ·rw [h2, Qk.val]
  refine ⟨[], ?_⟩
  rw [List.append_nil]
  by_cases ho : R.over = true
  ·rw [if_pos ho]; exact xA hs ho
  ·rw [if_neg ho]; exact Cq hs (by simpa using ho) h1
theorem KS (hz : z ≤ 1000) (ht : R.tame) (hbas : ∀ o ∈ s.obs.take (r + 1), o.und (r + 1) 0 = true ∧ o.kind ≠ 4) (hs : s.obs[r]? = some (rdO R)) :
  ∃ ex, call G 133 [.ptr r 0, .int .i64 z, .bool c] s = some (toV (fzV (Qk.val c z.toNat R)), ⟨s.obs.set r (rdO (Qk.val c z.toNat R).1), s.bufs ++ ex⟩) := by
 have hr := cK hs
 have hb2 : ∀ o ∈ (s.obs ++ [Qw.cells 46 zL]).take (r + 1), o.und (r + 1) 0 = true ∧ o.kind ≠ 4 := by
  rw [List.take_append_of_le_length (by omega)]; exact hbas
 obtain ⟨ex, h1⟩ := valZ (c := c) (s := ⟨s.obs ++ [.cells 46 zL], s.bufs⟩) hz ht hb2 (wD hs _)
 simp only [Dj hs] at h1
 generalize Qk.val c z.toNat R = Q at *
 obtain ⟨R', v⟩ := Q
 simp only at h1 ⊢
 by_cases he : R'.e = 0
 ·have hzz : fzV (R', v) = v := Ad he
  rw [hzz]
  obtain ⟨ex', hfin, _⟩ := sM s hr (o := rdO R') (fZ _ _ _) [.cells 46 (vc v), .cells 46 (vc v)] ex (v := toV v) (by simp)
  refine ⟨ex', aC (F := af133) rfl rfl ?_⟩
  have hg := iQ (s := s) hr (rdO R')
  obtain ⟨L, n, e, a⟩ := R'
  obtain ⟨k2, n2, s2, ll, ff⟩ := v
  simp only at he
  subst he
  simp only [rdO, toV, vc] at h1 hg hfin ⊢
  simp [af133, af133b, h1, ↓hg, aI, aK, aB, V.one, fV, lM, gD, lV]
  simp at hfin
  rw [hfin]
 ·have hzz : fzV (R', v) = jNull := lL he
  rw [hzz]
  obtain ⟨ex', hfin, _⟩ := sM s hr (o := rdO R') (fZ _ _ _) [.cells 46 zL, .cells 46 (vc v)] ex (v := .agg zL) (by simp)
  refine ⟨ex', aC (F := af133) rfl rfl ?_⟩
  have hg := iQ (s := s) hr (rdO R')
  obtain ⟨L, n, e, a⟩ := R'
  obtain ⟨k2, n2, s2, ll, ff⟩ := v
  simp only at he
  have he' := eq_false he
  simp only [rdO, toV, vc, jNull] at h1 hg hfin ⊢
  simp [af133, af133b, h1, ↓hg, he', aI, aK, aB, V.one, fV, lM, gD, lV]
  simp at hfin
  rw [hfin]
  rfl
theorem tR (hs : s.obs[r]? = some (rdO R)) : call G 53 [.ptr r 0] s = some (.agg [.int .i64 R.e, .int .i64 R.a], s) := by
 refine aC (F := af53) rfl rfl ?_
 have hr := wD hs
 obtain ⟨L, n, e, a⟩ := R
 simp only [rdO] at hr
 simp [af53, af53b, ↓hr, aI, aK, aB, V.one]
 rw [bZ _ _ _ (by rfl)]
 rfl
end
section
variable {r : Nat} {R R' : Qk} {s : St} {g : FuncId} {args : List V} {v : V}
theorem Er (hr : r < s.obs.length) (hbas : ∀ o ∈ s.obs.take (r + 1), o.und (r + 1) 0 = true ∧ o.kind ≠ 4) (hn : eD args = r + 1) (ha : bY (r + 1) 0 args = true) (hv : v.und (r + 1) 0 = true)
  (hc : ∀ s' : St, s'.obs[r]? = some (rdO R) → (∀ o ∈ s'.obs.take (r + 1), o.und (r + 1) 0 = true ∧ o.kind ≠ 4) → ∃ ex, call G g args s' = some (v, ⟨s'.obs.set r (rdO R'), s'.bufs ++ ex⟩)) (X : List Qw) :
  frK ⟨s.obs.set r (rdO R) ++ X, s.bufs⟩ args (call G g args (vF ⟨s.obs.set r (rdO R) ++ X, s.bufs⟩ args)) = some (v, ⟨s.obs.set r (rdO R') ++ X, s.bufs⟩) := by
 have hb : ∀ o ∈ (s.obs.set r (rdO R) ++ X).take (r + 1), o.und (r + 1) 0 = true ∧ o.kind ≠ 4 := by
  rw [List.take_append_of_le_length (by simp; omega), List.take_set]
  exact tU hbas (fZ _ _ _) (by rw [oY]; decide)
 have hs : (s.obs.set r (rdO R) ++ X)[r]? = some (rdO R) := iQ hr _ _
 obtain ⟨ex, h1⟩ := hc ⟨(s.obs.set r (rdO R) ++ X).take (r + 1), []⟩ (by simp only; rw [List.getElem?_take, if_pos (by omega)]; exact hs) (by simpa [List.take_take] using hb)
 have := CL (s := ⟨s.obs.set r (rdO R) ++ X, s.bufs⟩) hs hn ha hb h1 hv (fZ _ _ _) rfl
 rw [this]
 simp only [upR, HR hr]
end
structure Aop where
 k : Int
 x : List UInt8
 n : Int
 e : Int
def opV (o : Aop) : V := .agg [.int .u8 o.k, .str o.x, .int .i64 o.n, .int .i64 o.e]
def xF (a : Int) : Int := if 14 < a then 14 else a
theorem zN (p : Qj × List UInt8 × List UInt8) : (Qj.bang p).1.L = p.1.L := by unfold Qj.bang; split <;> rfl
theorem In : ∀ (n : Nat) (q : Qj), (Qj.typ n q).1.L = q.L
 | 0, q => by
  rw [Qj.typ]
  split
  ·exact pM _ _ _
  ·rw [sP, zN]; exact pS q
 | n + 1, q => by
  rw [Qj.typ]
  split
  ·rw [sP, zN, uA, In n]; rfl
  ·rw [sP, zN]; exact pS q
theorem Ac {p : Qj × List UInt8 × List UInt8} (h : (fzR p).1.e ≠ 0) : (fzR p).2 = ([], []) := by
 rw [sP] at h
 unfold fzR
 rw [if_neg h]
theorem JK : ∀ (n : Nat) (q : Qj), (Qj.typ n q).1.e ≠ 0 → (Qj.typ n q).2 = ([], [])
 | 0, q, h => by
  rw [Qj.typ] at h ⊢
  split at h
  ·rename_i hi; rw [if_pos hi]
  ·rename_i hi; rw [if_neg hi]; exact Ac h
 | n + 1, q, h => by
  rw [Qj.typ] at h ⊢
  split at h
  ·rename_i hi; rw [if_pos hi]; exact Ac h
  ·rename_i hi; rw [if_neg hi]; exact Ac h
section
variable {r : Nat} {q : Qj} {s : St}
theorem lF (hs : s.obs[r]? = some (rdO q.rs)) (q' : Qj) (X : List Qw) (b : Bool) :
  fin false (⟨s.obs.set r (rdO q.rs), s.bufs⟩ : St) ⟨s.obs.set r (rdO q'.rs) ++ X, s.bufs⟩ (.tup [.agg (rrC q'), .bool b]) = (.tup [rrV q', .bool b], ⟨s.obs.set r (rdO q'.rs), s.bufs⟩) := by
 have h1 := aE q'.L
 have h2 := bE q'.L
 rw [jD (cK hs) q.rs q'.rs X (by simp [rrC, h1, h2])]
 simp [rrV, rrC, h1]
theorem SXg (o : Qw) (X : List Qw) (i : Nat) : (s.obs.set r o ++ X)[s.obs.length + i]? = X[i]? := by
 rw [List.getElem?_append_right (by simp)]; simp
theorem zF (o : Qw) (X : List Qw) : (s.obs.set r o ++ X)[s.obs.length]? = X[0]? := SXg (s := s) (r := r) o X 0
theorem SXw (o : Qw) (X : List Qw) (i : Nat) (a : Qw) : (s.obs.set r o ++ X).set (s.obs.length + i) a = s.obs.set r o ++ X.set i a := by
 rw [List.set_append_right _ _ (by simp)]; simp
theorem zG (o : Qw) (X : List Qw) (a : Qw) : (s.obs.set r o ++ X).set s.obs.length a = s.obs.set r o ++ X.set 0 a := SXw (s := s) (r := r) o X 0 a
def yY (s : St) (r : Nat) (q : Qj) (o : Aop) : Prop :=
 ∃ q' : Qj, call G 52 [.ptr r 0, rrV q, opV o] s = some (.tup [rrV q', .bool true], ⟨s.obs.set r (rdO q'.rs), s.bufs⟩) ∧ q'.ok ∧ q'.L = q.L
set_option maxHeartbeats 2000000 in
theorem Kl (hf : q.fine) (hs : s.obs[r]? = some (rdO q.rs)) {o : Aop} (hk : o.k.tmod 8 = 0) : yY s r q o := by
 have hr := cK hs
 have hup := gJ hs
 refine ⟨q, ?_, hf.ok, rfl⟩
 rw [← hup]
 simp only [upR, List.set_set]
 have hpl := aE q.L
 have hud := bE q.L
 have hr3 : r < s.obs.length + 3 := by omega
 have h1 := fun X => vM (s := s) hr q.rs X
 have h2 := fun S => gF hf.ok o.x S
 have hfin := fun X b => lF hs q X b
 refine aC (F := af52) rfl rfl ?_
 generalize q.rs = R at *
 obtain ⟨L, k, n, e, a⟩ := q
 simp only at hpl hud
 obtain ⟨ok, ox, on, oe⟩ := o
 simp only at hk h2
 simp only [rrV, rrC, opV] at h2 hfin ⊢
 simp [af52, af52b, hpl, hud, h1, h2, hk, hr, hr3, aI, aY, aK, aB, V.one, ↓SXg, ↓zF, SXw, zG, aL, aR, aN, aM, bA, eY, kC, V.top, aT, aQ, cE, hfin]
set_option maxHeartbeats 2000000 in
theorem Gx (hf : q.fine) (hbas : ∀ o ∈ s.obs.take (r + 1), o.und (r + 1) 0 = true ∧ o.kind ≠ 4) (hs : s.obs[r]? = some (rdO q.rs)) {o : Aop} (hk : o.k.tmod 8 = 1) : yY s r q o := by
 have hr := cK hs
 have hup := gJ hs
 have hpl := aE q.L
 have hud := bE q.L
 have hr3 : r < s.obs.length + 3 := by omega
 have hle : r ≤ s.obs.length := by omega
 have hle1 : r + 1 ≤ s.obs.length := hr
 have h2 := fun S => gF hf.ok o.x S
 have h3 := fun S => lT hf.ok o.x S
 have hfr := fun X => Er (s := s) (R := q.rs) (R' := q.rs.take o.x) (g := 129) (args := [.ptr r 0, .str o.x]) (v := .bool (q.rs.is o.x)) hr hbas (by simp [eD, V.top]) (by simp) (by simp) (fun s' h _ => ⟨[], by rw [List.append_nil]; exact kZ h o.x⟩) X
 by_cases hi : q.rs.is o.x = true
 ·have hm : q.must o.x = q.inc := by unfold Qj.must; rw [if_pos hi]
  have htk : q.rs.take o.x = q.inc.rs := by rw [iW]; unfold Qk.take; rw [if_pos hi]
  rw [hm] at h3
  rw [htk] at hfr
  refine ⟨q.inc, ?_, mD hf.ok (kW hi), rfl⟩
  rw [← hup]
  simp only [upR, List.set_set]
  have hfin := fun X b => lF hs q.inc X b
  refine aC (F := af52) rfl rfl ?_
  generalize q.rs = R at *
  generalize q.inc.rs = R' at *
  generalize q.inc = q2 at *
  obtain ⟨L, k, n, e, a⟩ := q
  obtain ⟨L2, k2, n2, e2, a2⟩ := q2
  simp only at hpl hud
  obtain ⟨ok, ox, on, oe⟩ := o
  simp only at hk h2 h3 hfr hi
  simp only [rrV, rrC, opV] at h2 h3 hfin ⊢
  simp [hi] at hfr
  simp [af52, af52b, hpl, hud, h2, h3, hi, hk, hr, hr3, hle, hle1, hfr, aI, aY, aK, aB, V.one, ↓SXg, ↓zF, SXw, zG, aL, aR, aN, aM, bA, eY, kC, V.top, aT, aQ, cE, hfin]
 ·have hi' : q.rs.is o.x = false := by simpa using hi
  have htk : q.rs.take o.x = q.rs := by unfold Qk.take; rw [if_neg hi]
  rw [htk] at hfr
  refine ⟨q, ?_, hf.ok, rfl⟩
  rw [← hup]
  simp only [upR, List.set_set]
  have hfin := fun X b => lF hs q X b
  refine aC (F := af52) rfl rfl ?_
  generalize q.rs = R at *
  obtain ⟨L, k, n, e, a⟩ := q
  simp only at hpl hud
  obtain ⟨ok, ox, on, oe⟩ := o
  simp only at hk h2 h3 hfr hi'
  simp only [rrV, rrC, opV] at h2 hfin ⊢
  simp [hi'] at hfr
  simp [af52, af52b, hpl, hud, h2, hi', hk, hr, hr3, hle, hle1, hfr, aI, aY, aK, aB, V.one, ↓SXg, ↓zF, SXw, zG, aL, aR, aN, aM, bA, eY, kC, V.top, aT, aQ, cE, hfin]
set_option maxHeartbeats 2000000 in
theorem Gv (hf : q.fine) (hs : s.obs[r]? = some (rdO q.rs)) {o : Aop} (hk : o.k.tmod 8 = 2) : yY s r q o := by
 have hr := cK hs
 have hup := gJ hs
 have hpl := aE q.L
 have hud := bE q.L
 have h2 := fun X => Ey (s := s) hr q.rs X o.x
 have h3 := fun S => lT hf.ok o.x S
 have hm := Ay q o.x
 rw [← hm] at h2
 refine ⟨q.must o.x, ?_, rP hf.ok _, uA _ _⟩
 rw [← hup]
 simp only [upR, List.set_set]
 have hfin := fun X b => lF hs (q.must o.x) X b
 refine aC (F := af52) rfl rfl ?_
 generalize q.rs = R at *
 generalize (q.must o.x).rs = R' at *
 generalize q.must o.x = q2 at *
 obtain ⟨L, k, n, e, a⟩ := q
 obtain ⟨L2, k2, n2, e2, a2⟩ := q2
 simp only at hpl hud
 obtain ⟨ok, ox, on, oe⟩ := o
 simp only at hk h2 h3
 simp only [rrV, rrC, opV] at h3 hfin ⊢
 simp [af52, af52b, hpl, hud, h2, h3, hk, hr, aI, aY, aK, aB, V.one, ↓SXg, ↓zF, SXw, zG, aL, aR, aN, aM, bA, eY, kC, V.top, aT, aQ, cE, hfin]
set_option maxHeartbeats 2000000 in
theorem Gw (hf : q.fine) (hbas : ∀ o ∈ s.obs.take (r + 1), o.und (r + 1) 0 = true ∧ o.kind ≠ 4) (hs : s.obs[r]? = some (rdO q.rs)) {o : Aop} (hk : o.k.tmod 8 = 3) : yY s r q o := by
 have hr := cK hs
 have hup := gJ hs
 have hpl := aE q.L
 have hud := bE q.L
 have hle : r ≤ s.obs.length + 2 := by omega
 have hle3 : r < s.obs.length + 3 := by omega
 obtain ⟨n1, n2⟩ := pZ q
 have h3 := fun S => lU hf.ok S
 have hfr := fun X => Er (s := s) (R := q.rs) (R' := q.rs.name.1) (g := 131) (args := [.ptr r 0]) (v := .str q.rs.name.2) hr hbas (by simp [eD, V.top]) (by simp) (by simp) (fun s' h _ => ⟨[], by rw [List.append_nil]; exact qR h⟩) X
 rw [← n1, ← n2] at hfr
 refine ⟨q.name.1, ?_, lQ hf.ok, pS _⟩
 rw [← hup]
 simp only [upR, List.set_set]
 have hfin := fun X b => lF hs q.name.1 X b
 refine aC (F := af52) rfl rfl ?_
 generalize q.rs = R at *
 generalize q.name = Nm at *
 obtain ⟨q2, nm⟩ := Nm
 simp only at h3 hfr hfin ⊢
 have hpl2 := aE q2.L
 generalize q2.rs = R' at *
 obtain ⟨L, k, n, e, a⟩ := q
 obtain ⟨L2, k2, n2, e2, a2⟩ := q2
 simp only at hpl hud hpl2
 obtain ⟨ok, ox, on, oe⟩ := o
 simp only at hk
 simp only [rrV, rrC, opV] at h3 hfin ⊢
 simp [af52, af52b, hpl, hpl2, hud, h3, hk, hr, hle, hle3, hfr, aI, aY, aK, aB, V.one, ↓SXg, ↓zF, SXw, zG, aL, aR, aN, aM, bA, eY, kC, V.top, aT, aQ, cE, hfin]
set_option maxHeartbeats 2000000 in
theorem Gu (hf : q.fine) (hs : s.obs[r]? = some (rdO q.rs)) {o : Aop} (hk : o.k.tmod 8 = 7) : yY s r q o := by
 have hr := cK hs
 have hup := gJ hs
 have hpl := aE q.L
 have hud := bE q.L
 have h2 := fun X => zW (s := s) hr q.rs X o.n o.e
 have h3 := fun S => jX hf.ok o.n o.e S
 have hm := pY q o.n o.e
 rw [← hm] at h2
 refine ⟨q.fail o.n o.e, ?_, gI hf.ok _ _, pM _ _ _⟩
 rw [← hup]
 simp only [upR, List.set_set]
 have hfin := fun X b => lF hs (q.fail o.n o.e) X b
 refine aC (F := af52) rfl rfl ?_
 generalize q.rs = R at *
 generalize (q.fail o.n o.e).rs = R' at *
 generalize q.fail o.n o.e = q2 at *
 obtain ⟨L, k, n, e, a⟩ := q
 obtain ⟨L2, k2, n2, e2, a2⟩ := q2
 simp only at hpl hud
 obtain ⟨ok, ox, on, oe⟩ := o
 simp only at hk h2 h3
 simp only [rrV, rrC, opV] at h3 hfin ⊢
 simp [af52, af52b, hpl, hud, h2, h3, hk, hr, aI, aY, aK, aB, V.one, ↓SXg, ↓zF, SXw, zG, aL, aR, aN, aM, bA, eY, kC, V.top, aT, aQ, cE, hfin]
set_option maxHeartbeats 2000000 in
theorem Gy (hf : q.fine) (hbas : ∀ o ∈ s.obs.take (r + 1), o.und (r + 1) 0 = true ∧ o.kind ≠ 4) (hs : s.obs[r]? = some (rdO q.rs)) {o : Aop} (hk : o.k.tmod 8 = 6) : yY s r q o := by
 have hr := cK hs
 have hup := gJ hs
 have hpl := aE q.L
 have hud := bE q.L
 have hle : r ≤ s.obs.length + 2 := by omega
 have hle2 : r ≤ s.obs.length + 3 := by omega
 have hle3 : r < s.obs.length + 3 := by omega
 have hle4 : r < s.obs.length + 4 := by omega
 have h3 := fun S => Dv 4 (by omega) q hf.ok S
 obtain ⟨e1, e2⟩ := Az 4 q
 have hok2 := Da 4 q hf.ok
 have hL2 := In 4 q
 have hty : q.rs.ty.1 = (Qj.typ 4 q).1.rs ∧ q.rs.ty.2 = (Qj.typ 4 q).2 := by
  refine ⟨by rw [ty_e, e1], ?_⟩
  unfold Qk.ty fzT
  by_cases he : (Qk.typ 4 q.rs).1.e = 0
  ·rw [if_pos he]
   exact (e2 (by have : (Qj.typ 4 q).1.rs.e = 0 := (by rw [e1]; exact he); exact this)).symm
  ·rw [if_neg he]
   exact (JK 4 q (by have : (Qj.typ 4 q).1.rs.e ≠ 0 := (by rw [e1]; exact he); exact this)).symm
 have hfr := fun X => Er (s := s) (R := q.rs) (R' := q.rs.ty.1) (g := 124) (args := [.ptr r 0]) (v := tyV q.rs.ty.2.1 q.rs.ty.2.2) hr hbas (by simp [eD, V.top]) (by simp) (by simp [tyV]) (fun s' h _ => ⟨[], by rw [List.append_nil]; exact yV h⟩) X
 rw [hty.1, hty.2] at hfr
 clear e1 e2 hty
 refine ⟨(Qj.typ 4 q).1, ?_, hok2, hL2⟩
 rw [← hup]
 simp only [upR, List.set_set]
 have hfin := fun X b => lF hs (Qj.typ 4 q).1 X b
 refine aC (F := af52) rfl rfl ?_
 generalize q.rs = R at *
 generalize Qj.typ 4 q = T at *
 obtain ⟨q2, tx, tw⟩ := T
 simp only at h3 hfr hfin ⊢
 have hpl2 := aE q2.L
 generalize q2.rs = R' at *
 clear hok2 hL2
 obtain ⟨L, k, n, e, a⟩ := q
 obtain ⟨L2, k2, n2, e2, a2⟩ := q2
 simp only at hpl hud hpl2
 obtain ⟨ok, ox, on, oe⟩ := o
 simp only at hk
 simp only [rrV, rrC, opV, tyV] at h3 hfr hfin ⊢
 push_cast at h3
 simp [af52, af52b, hpl, hpl2, hud, h3, hk, hr, hle, hle2, hle3, hle4, hfr, aI, aY, aK, aB, V.one, ↓SXg, ↓zF, SXw, zG, aL, aR, aN, aM, bA, eY, kC, V.top, aT, aQ, cE, xS, kN, nI, hfin]
set_option maxHeartbeats 2000000 in
theorem EQ (hf : q.fine) (hbas : ∀ o ∈ s.obs.take (r + 1), o.und (r + 1) 0 = true ∧ o.kind ≠ 4) (hs : s.obs[r]? = some (rdO q.rs)) {o : Aop} (hk : o.k.tmod 8 = 4 ∨ o.k.tmod 8 = 5) : yY s r q o := by
 have hr := cK hs
 have hup := gJ hs
 have hpl := aE q.L
 have hud := bE q.L
 have hle : r ≤ s.obs.length + 2 := by omega
 have hle2 : r ≤ s.obs.length + 3 := by omega
 have hle3 : r < s.obs.length + 3 := by omega
 have hle4 : r < s.obs.length + 4 := by omega
 have hz : xF o.n ≤ 1000 := by unfold xF; split <;> omega
 have hL2 : q.rs.L.length ≤ 900 := Nat.le_trans (by simp [Qj.rs]) hf.len
 have ht : q.rs.tame := ⟨by omega, fun t ht hk => Fy ((hf.toks t (List.mem_of_mem_drop ht)).2 hk)⟩
 have key : ∀ c : Bool, (c = true ↔ o.k.tmod 8 = 5) → yY s r q o := by
  intro c hc
  have h3 := fun S => Ll (c := c) hz hf S
  obtain ⟨q', _, e1, e2, e3⟩ := h3 s
  have h3' : ∀ S, call G 132 [rrV q, .int .i64 (xF o.n), .bool c] S = some (.tup [rrV q', toV (fzV (Qk.val c (xF o.n).toNat q.rs))], S) := by
   intro S
   obtain ⟨q'', hcl, f1, f2, f3⟩ := h3 S
   have hq : q'' = q' := Dw (f1.trans e1.symm) (f3.trans e3.symm) f2 e2
   subst hq
   exact hcl
  have hfr := fun X => Er (s := s) (R := q.rs) (R' := (Qk.val c (xF o.n).toNat q.rs).1) (g := 133) (args := [.ptr r 0, .int .i64 (xF o.n), .bool c]) (v := toV (fzV (Qk.val c (xF o.n).toNat q.rs))) hr hbas (by simp [eD, V.top]) (by simp) (by simp) (fun s' h hb => KS (c := c) hz ht hb h) X
  rw [← e1] at hfr
  have hsm := fun S => FU (Kv (EN c (xF o.n).toNat q.rs (by omega))) S
  refine ⟨q', ?_, e2, e3⟩
  rw [← hup]
  simp only [upR, List.set_set]
  have hfin := fun X b => lF hs q' X b
  refine aC (F := af52) rfl rfl ?_
  have hpl2 := aE q'.L
  clear h3 e1 e2 e3 ht hf
  generalize fzV (Qk.val c (xF o.n).toNat q.rs) = w at *
  generalize q.rs = R at *
  generalize q'.rs = R' at *
  obtain ⟨L, k, n, e, a⟩ := q
  obtain ⟨L2, k2, n2, e2, a2⟩ := q'
  obtain ⟨wk, wn, wx, wl, wf⟩ := w
  simp only at hpl hud hpl2
  obtain ⟨ok, ox, on, oe⟩ := o
  simp only at hk hc h3' hfr
  have hmz : (if 14 < on then (14 : Int) else on) = xF on := rfl
  simp only [rrV, rrC, opV, toV, vc] at h3' hfr hsm hfin ⊢
  rcases hk with hk | hk
  ·have hcf : c = false := by cases c with
    | false => rfl
    | true => have := hc.1 rfl; omega
   subst hcf
   simp [af52, af52b, hpl, hpl2, hud, kK, hmz, h3', hsm, hk, hr, hle, hle2, hle3, hle4, hfr, aI, aY, aK, aB, V.one, ↓SXg, ↓zF, SXw, zG, aL, aR, aN, aM, bA, eY, kC, V.top, aT, aQ, cE, hfin]
  ·have hcf : c = true := hc.2 hk
   subst hcf
   simp [af52, af52b, hpl, hpl2, hud, kK, hmz, h3', hsm, hk, hr, hle, hle2, hle3, hle4, hfr, aI, aY, aK, aB, V.one, ↓SXg, ↓zF, SXw, zG, aL, aR, aN, aM, bA, eY, kC, V.top, aT, aQ, cE, hfin]
 rcases hk with hk | hk
 ·exact key false ⟨fun h => (by cases h), fun h => by omega⟩
 ·exact key true ⟨fun _ => hk, fun _ => rfl⟩
end
theorem IJ {r : Nat} {q : Qj} {s : St} (hf : q.fine) (hbas : ∀ o ∈ s.obs.take (r + 1), o.und (r + 1) 0 = true ∧ o.kind ≠ 4) (hs : s.obs[r]? = some (rdO q.rs)) {o : Aop} (h0 : 0 ≤ o.k) : yY s r q o := by
 have h1 : o.k.tmod 8 = o.k % 8 := Int.tmod_eq_emod_of_nonneg h0
 have h2 : 0 ≤ o.k % 8 := Int.emod_nonneg _ (by decide)
 have h3 : o.k % 8 < 8 := Int.emod_lt_of_pos _ (by decide)
 rw [← h1] at h2 h3
 by_cases c0 : o.k.tmod 8 = 0
 ·exact Kl hf hs c0
 by_cases c1 : o.k.tmod 8 = 1
 ·exact Gx hf hbas hs c1
 by_cases c2 : o.k.tmod 8 = 2
 ·exact Gv hf hs c2
 by_cases c3 : o.k.tmod 8 = 3
 ·exact Gw hf hbas hs c3
 by_cases c6 : o.k.tmod 8 = 6
 ·exact Gy hf hbas hs c6
 by_cases c7 : o.k.tmod 8 = 7
 ·exact Gu hf hs c7
 ·exact EQ hf hbas hs (by omega)
def RDS (x : List V) (q : Qj) (J : List Qw) : St := ⟨.cells 29 x :: rdO q.rs :: .cells 102 (rrC q) :: J, []⟩
section
variable {x : List V} {ops : List Aop}
theorem Gh (l : List Tok) : eD (bO l) = 0 := by
 unfold bO
 induction l with
 | nil => rfl
 | cons t l ih => simp [eD, V.top, fN, ih]
def RDP (x : List V) (s' : St) : Prop := ∃ q' J', q'.fine ∧ s' = RDS x q' J'
theorem Jq (o : Aop) (n m : Nat) : (opV o).und n m = true := by simp [opV]
set_option maxHeartbeats 2000000 in
theorem FG (hx : ∀ n m, bY n m x = true) (hk : ∀ o ∈ ops, 0 ≤ o.k) (hl : ops.length ≤ 30) : ∀ (m i : Nat) (q : Qj) (J : List Qw) (env : Env), ops.length - i = m → i ≤ ops.length → q.fine →
  env 1 = .sl .no (ops.map opV) → env 5 = .ptr 1 0 → env 6 = .ptr 2 0 → env 7 = .int .i64 i →
  Out (evC G (.loop false af12l0) env (RDS x q J)) (fun ex env' s' => ex = .exit 0 ∧ env' 5 = .ptr 1 0 ∧ env' 6 = .ptr 2 0 ∧ RDP x s') := by
 intro m
 induction m with
 | zero =>
  intro i q J env hm hi hf h1 h5 h6 h7
  have : i = ops.length := by omega
  subst this
  refine aH G false _ _ af12l0.eq_1 _ _ _ ?_
  simp [h1, h5, h6, h7]
  exact ⟨q, J, hf, rfl⟩
 | succ m ih =>
  intro i q J env hm hi hf h1 h5 h6 h7
  have hlt : i < ops.length := by omega
  have hgt := List.getElem?_eq_getElem hlt
  generalize ho : ops[i] = o at *
  have hmem : o ∈ ops := by rw [← ho]; exact List.getElem_mem hlt
  have hgi : (ops.map opV)[((i : Nat) : Int).toNat]? = some (opV o) := by rw [Int.toNat_natCast, List.getElem?_map, hgt]; rfl
  have hgi' : (ops.map opV)[i]? = some (opV o) := by rw [List.getElem?_map, hgt]; rfl
  have hw : IntKind.i64.wrap ((i : Int) + 1) = ((i + 1 : Nat) : Int) := by rw [aD (by omega) (by omega)]; omega
  have hb0 : ∀ y ∈ [Qw.cells 29 x, rdO q.rs].take (1 + 1), y.und (1 + 1) 0 = true ∧ y.kind ≠ 4 := by
   intro y hy
   have hy := List.mem_of_mem_take hy
   simp only [List.mem_cons, List.not_mem_nil, or_false] at hy
   rcases hy with rfl | rfl
   ·exact ⟨by simp [Qw.und, hx], by simp [Qw.kind]⟩
   ·exact ⟨fZ _ _ _, by rw [oY]; decide⟩
  obtain ⟨q', hc, hok', hL'⟩ := IJ (r := 1) (s := ⟨[.cells 29 x, rdO q.rs], []⟩) (o := o) hf hb0 rfl (hk o hmem)
  have hf' := vC hf hok' hL'
  have hfr := CL (g := 52) (s := RDS x q J) (r := 1) (o0 := rdO q.rs) (args := [.ptr 1 0, rrV q, opV o]) (v := .tup [rrV q', .bool true]) (o := rdO q'.rs) (ex := []) rfl
   (by have := Gh q.L; simp [eD, V.top, rrV, rrC, opV, this]) (by have := rW q 2 0; have := Jq o 2 0; simp [*]) hb0 hc (by have := rW q' 2 0; simp [this]) (fZ _ _ _) rfl
  have hup : upR (RDS x q J) 1 (rdO q'.rs) = ⟨.cells 29 x :: rdO q'.rs :: .cells 102 (rrC q) :: J, []⟩ := rfl
  rw [hup] at hfr
  have hnx := fun env => ih (i + 1) q' (J ++ [.cells 102 (rrC q')]) env (by omega) (by omega) hf'
  have s1 := tR (s := RDS x q' (J ++ [.cells 102 (rrC q')])) (r := 1) (R := q'.rs) rfl
  have s2 := oX (s := RDS x q' (J ++ [.cells 102 (rrC q')])) (r := 1) (R := q'.rs) rfl
  have s3 := pW (s := RDS x q' (J ++ [.cells 102 (rrC q')])) (r := 1) (R := q'.rs) rfl
  have s4 := fun S => kS hok' S
  have s5 := fun S => eP hok' S
  have hpl := aE q.L
  have hpl' := aE q'.L
  have hgJ : ∀ (a b c y : Qw), (a :: b :: c :: (J ++ [y]))[J.length + 3]? = some y := fun a b c y => by
   simp only [List.getElem?_cons_succ]; rw [List.getElem?_append_right (by omega)]; simp
  have hsJ : ∀ (a b c y y' : Qw), (a :: b :: c :: (J ++ [y])).set (J.length + 3) y' = a :: b :: c :: (J ++ [y']) := fun a b c y y' => by
   simp only [List.set_cons_succ]; rw [List.set_append_right _ _ (by omega)]; simp
  have he : q'.rs.e = q'.e ∧ q'.rs.a = q'.a := ⟨rfl, rfl⟩
  rw [he.1, he.2] at s1
  refine aH G false _ _ af12l0.eq_1 _ _ _ ?_
  clear hc hf ih hok' hL' hmem hb0 he
  simp only [RDS] at hfr hnx s1 s2 s3 ⊢
  generalize q'.rs = R' at *
  generalize q.rs = R at *
  obtain ⟨L, k, n, e, a⟩ := q
  obtain ⟨L2, k2, n2, e2, a2⟩ := q'
  simp only at hpl hpl'
  simp only [rrV, rrC, opV] at hfr hnx s1 s2 s3 s4 s5 hgi hgi' ⊢
  have hlt' : (i : Int) < (ops.length : Int) := by omega
  simp [h1, h5, h6, h7, hlt, hlt', ↓hgi, ↓hgi', hpl, hpl', hfr, aI, aY, aK, aB, V.one, ↓hgJ, hsJ, s1, s2, s3, s4, s5, aL, aR, aN, aM, aT, xS, kN, nI, hw]
  refine Out.mono (hnx _ (by simp [h1]) (by simp [h5]) (by simp [h6]) (by simp)) ?_
  rintro ex env' s' ⟨rfl, w5, w6, hq⟩
  exact ⟨rfl, w5, w6, hq⟩
end
theorem FH (b : List UInt8) (ops : List Aop) (hk : ∀ o ∈ ops, 0 ≤ o.k) : ∃ s', call G 12 [.str b, .sl .no (ops.map opV)] ⟨[], []⟩ = some (.bool true, s') := by
 have ha := AS
 refine ⟨⟨[], []⟩, ?_⟩
 refine aC (F := af12) rfl rfl ?_
 by_cases hb : 400 < b.length
 ·have hb' : (400 : Int) < (b.length : Int) := by omega
  simp [af12, af12b, ha, hb, hb']
  rw [aS _ (v := .bool _) rfl]
  rfl
 have hb' : ¬ (400 : Int) < (b.length : Int) := by omega
 by_cases hl : 30 < ops.length
 ·have hl' : (30 : Int) < (ops.length : Int) := by omega
  simp [af12, af12b, ha, hb, hb', hl, hl']
  rw [aS _ (v := .bool _) rfl]
  rfl
 have hl' : ¬ (30 : Int) < (ops.length : Int) := by omega
 have h1 := yJ b (by omega) ⟨[], []⟩
 have h2 := fun S => Du b (by omega) S
 have hlp := fun env => FG (x := [.int .i64 (dK b).2.1, .int .i64 (dK b).2.2]) (ops := ops) (by intro n m; simp) hk (by omega) ops.length 0 (rr0 b) [] env (by omega) (by omega) (HI b)
 have hR : (⟨[.cells 29 [.int .i64 (dK b).2.1, .int .i64 (dK b).2.2], rdO (rd0 b), .cells 102 (rrC (rr0 b))], []⟩ : St) = RDS [.int .i64 (dK b).2.1, .int .i64 (dK b).2.2] (rr0 b) [] := rfl
 have hpl := aE (rr0 b).L
 generalize [V.int .i64 (dK b).2.1, .int .i64 (dK b).2.2] = x at *
 generalize hq : RDS x (rr0 b) [] = S0 at *
 have hc : rrC (rr0 b) = [.sl .no (bO (rr0 b).L), .int .i64 (rr0 b).k, .int .i64 (rr0 b).n, .int .i64 (rr0 b).e, .int .i64 (rr0 b).a] := rfl
 simp only [rrV] at h2
 rw [hc] at h2 hR
 generalize (rr0 b).L = L at *
 generalize (rr0 b).k = k at *
 generalize (rr0 b).n = n at *
 generalize (rr0 b).e = e at *
 generalize (rr0 b).a = a at *
 generalize rdO (rd0 b) = ro at *
 simp at h1
 simp [af12, af12b, ha, hb, hb', hl, hl', h1, h2, hpl, aI, aK, aB, V.one, hR, xR]
 refine Out.mono (hlp _ (by simp) (by simp) (by simp) (by simp)) ?_
 rintro ex env' s' ⟨rfl, w5, w6, q', J', hf', rfl⟩
 have s1 := tR (s := RDS x q' J') (r := 1) (R := q'.rs) rfl
 have s2 := oX (s := RDS x q' J') (r := 1) (R := q'.rs) rfl
 have s4 := fun S => kS hf'.ok S
 have he : q'.rs.e = q'.e ∧ q'.rs.a = q'.a := ⟨rfl, rfl⟩
 rw [he.1, he.2] at s1
 have hpl' := aE q'.L
 simp only [RDS] at s1 s2 ⊢
 clear hf' hlp he
 generalize q'.rs = R' at *
 obtain ⟨L2, k2, n2, e2, a2⟩ := q'
 simp only at hpl'
 simp only [rrV, rrC] at s1 s2 s4 ⊢
 simp [w5, w6, hpl', s1, s2, s4, aI, aY, aK, aB, V.one, aL, aR, aN, aM, aT, xS, kN, nI]
 exact bZ ⟨[], []⟩ _ (.bool true) rfl
