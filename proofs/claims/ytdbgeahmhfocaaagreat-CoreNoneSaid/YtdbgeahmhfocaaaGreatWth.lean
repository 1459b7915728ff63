/- The core's 'with': contracts, by walks. -/
import Derived.Test.YtdbgeahmhfocaaaGreatClo
namespace Go.Proofs.YtdbgeahmhfocaaaGreat
set_option linter.unusedSimpArgs false
set_option linter.unusedVariables false
set_option maxRecDepth 100000
open Go Go.RowKit
section
variable {B : World} {q : YB} {nr rn : Nat} {rr rb : Nat → Nat} {H : CU → HF} {K : Value → St → Prop} {G : Nat → Prop} {h : HF} {s : St} {t n : Nat}
theorem ring_of (hw : YW q nr rn rr rb H) {u : CU} (he : Env (cL (B := B) nr rn H) h G u s) {sub : Int} (hK : K (if 1 ≤ sub ∧ sub ≤ nr then .pointer (some ⟨rr (sub - 1).toNat, 0, none⟩) else .pointer none) s) : Fn Tryz.prog B 31 #[.pointer (some ⟨q.c, 0, none⟩), .int .i64 sub] s K := by
  obtain ⟨v0, v1, v3, v4, v5, v6, v7, v9, A, cap, hc, hr⟩ := hw.core
  have o1 := (he.at (hc u)).1
  have hn8 := hw.n8
  refine Fn.of is31 (by simp) fun hwf => ?_
  simp only [b31, Tryz.f31, Option.getD_some]
  by_cases h1 : sub < 1
  · rw [if_neg (by omega)] at hK
    simp -implicitDefEqProofs (disch := first | omega | (simp only [St.set_n, St.up_n, List.length_cons, List.length_nil]; omega)) only [go_sem, Nat.reduceAdd, Nat.reduceMul, Nat.reduceSub, Int.reduceAdd, Int.reduceMul, Int.reduceSub, Int.reduceNeg, Int.reduceToNat, o1, h1]
    exact hK
  · by_cases h2 : (nr : Int) < sub
    · rw [if_neg (by omega)] at hK
      simp -implicitDefEqProofs (disch := first | omega | (simp only [St.set_n, St.up_n, List.length_cons, List.length_nil]; omega)) only [go_sem, Nat.reduceAdd, Nat.reduceMul, Nat.reduceSub, Int.reduceAdd, Int.reduceMul, Int.reduceSub, Int.reduceNeg, Int.reduceToNat, o1, h1, h2]
      exact hK
    · obtain ⟨rk, cs, ty, rfl, hrk, hcs⟩ := hr (by omega)
      have o2 := (he.at (hrk u)).1
      obtain ⟨i, rfl⟩ : ∃ i : Nat, sub = (i : Int) + 1 := ⟨(sub - 1).toNat, by omega⟩
      have hi : i < nr := by omega
      have e1 : (i : Int) + 1 - 1 = i := by omega
      rw [if_pos (by omega), e1, Int.toNat_natCast] at hK
      have x0 := hcs i hi
      have e2 : (i : Int) < nr := by omega
      simp -implicitDefEqProofs (disch := first | omega | (simp only [St.set_n, St.up_n, List.length_cons, List.length_nil]; omega)) only [go_sem, Nat.reduceAdd, Nat.reduceMul, Nat.reduceSub, Int.reduceAdd, Int.reduceMul, Int.reduceSub, Int.reduceNeg, Int.reduceToNat, o1, h1, h2, e1, e2, o2, x0]
      exact hK
theorem queue_of {sub : Int} (h8 : 1 ≤ sub ∧ sub ≤ 8) (hK : K (.int .i64 (3 + sub)) s) : Fn Tryz.prog B 77 #[.int .i64 sub] s K := by
  have h1 : ¬ sub < 1 := by omega
  have h2 : ¬ 8 < sub := by omega
  refine Fn.of is77 (by simp) fun hwf => ?_
  simp only [b77, Tryz.f77, Option.getD_some]
  simp -implicitDefEqProofs (disch := first | omega | (simp only [St.set_n, St.up_n, List.length_cons, List.length_nil]; omega)) only [go_sem, Nat.reduceAdd, Nat.reduceMul, Nat.reduceSub, Int.reduceAdd, Int.reduceMul, Int.reduceSub, Int.reduceNeg, Int.reduceToNat, h1, h2]
  exact hK
theorem w11_ok (hw : YW q nr rn rr rb H) {i j : Nat} {d : Bool} (hi : i < nr) {f : Nat} {bd br ba : Nat} {a0 : CAn} (hdo : OpOk (cL (B := B) nr rn H) (fun u => RgOk rn (u.rg i)) f #[.pointer (some ⟨rr i, 0, none⟩)] (fun u r => r = .agg (fAn (ansC (u.rg i) d)).toArray) (fun u => u.po i d) h)
    (h1 : h bd = some (.raw (.cells #[.func (.func f) #[] #[]] 129 (0, 0)))) (h2 : h br = some (.raw (.cells #[.pointer (some ⟨rr i, 0, none⟩)] 100 (0, 0)))) (h3 : h ba = some (.raw (.cells (fAn a0).toArray 64 (0, 0)))) :
    FxOk (cL (B := B) nr rn H) (fun u => preC rn t u (.po i j d)) (fun u => u.po i d) (fun u => putH h ba (.raw (.cells (fAn (ansC (u.rg i) d)).toArray 64 (0, 0)))) (.func (.func 80) #[] #[.pointer (some ⟨bd, 0, none⟩), .pointer (some ⟨br, 0, none⟩), .pointer (some ⟨ba, 0, none⟩)]) h := by
  refine .inr ⟨_, _, _, rfl, fun G (u : CU) s he hp => ?_⟩
  have m1 := he.sub _ _ h1
  have m2 := he.sub _ _ h2
  refine Fn.of is80 (by simp) fun hwf => ?_
  simp only [b80, Tryz.f80, Option.getD_some]
  simp -implicitDefEqProofs (disch := first | omega | (simp only [St.set_n, St.up_n, List.length_cons, List.length_nil]; omega)) only [go_sem, Nat.reduceAdd, Nat.reduceMul, Nat.reduceSub, Int.reduceAdd, Int.reduceMul, Int.reduceSub, Int.reduceNeg, Int.reduceToNat, m1, m2]
  refine callF_wf ((hdo G u s he hp.1).mono fun r s' ⟨hr, ha⟩ hw' => ?_)
  subst hr
  obtain ⟨h', rfl, he'⟩ := ha.env he (fun c hc => .inl hc) hw'
  have m3 := he'.sub _ _ h3
  generalize ansC (u.rg i) d = a
  simp -implicitDefEqProofs (disch := first | omega | (simp only [St.set_n, St.up_n, List.length_cons, List.length_nil]; omega)) only [go_sem, Nat.reduceAdd, Nat.reduceMul, Nat.reduceSub, Int.reduceAdd, Int.reduceMul, Int.reduceSub, Int.reduceNeg, Int.reduceToNat, m3, fAn]
  have := ha.put (b := ba) (by rw [h3]; simp) (.raw (.cells (fAn a).toArray 64 (0, 0)))
  simp only [fAn] at this
  first | exact this | skip
def alC (j : Nat) (a : CAn) : List Int → CA
  | [i] => .fe i j a
  | i :: _ => .fr i
  | [] => .fr 0
def rlC (j : Nat) (a : CAn) (T : List CA) : List Int → List CA
  | [] => T
  | [_] => T
  | _ :: i' :: os => alC j a (i' :: os) :: rlC j a T (i' :: os)
def psC (j : Nat) (a : CAn) (T : List CA) : List Int → CU → CU × List CA
  | [], u => (u.fin j a, T)
  | i :: os, u => (u, alC j a (i :: os) :: rlC j a T (i :: os))
theorem w12_ok (hw : YW q nr rn rr rb H) {i j : Nat} {T : List CA} {a : CAn} {bc bo bt ba bn bl : Nat} {nv : Value} (ht : t ≤ 1000) (h1 : h bc = some (.raw (.cells #[.pointer (some ⟨q.c, 0, none⟩)] 27 (0, 0)))) (h2 : h bo = some (.raw (.cells #[.slice (some ⟨bl, 0, none⟩) 1 1] 22 (0, 0)))) (h3 : h bt = some (.raw (.cells #[.int .i64 t] 3 (0, 0))))
    (h4 : h ba = some (.raw (.cells (fAn a).toArray 64 (0, 0)))) (h5 : h bn = some (.raw (.cells #[nv] 65 (0, 0)))) (h6 : h bl = some (.raw (.cells #[.int .i64 (4 + (i : Int))] 3 (0, 0)))) (hn : NxN (cL (B := B) nr rn H) t n (fun _ u => EndOk u.log j) (fun a u => (u.fin j a, T)) nv h) {Q : CU → Prop} :
    NxOk (cL (B := B) nr rn H) Q t (n + 1) (fun u => (u, .fe (4 + (i : Int)) j a :: T)) (.func (.func 81) #[] #[.pointer (some ⟨bc, 0, none⟩), .pointer (some ⟨bo, 0, none⟩), .pointer (some ⟨bt, 0, none⟩), .pointer (some ⟨ba, 0, none⟩), .pointer (some ⟨bn, 0, none⟩)]) h := by
  refine .inr ⟨_, _, _, rfl, fun G (u : CU) s he _ => ?_⟩
  obtain ⟨v0, v1, v3, v4, v5, v6, v7, v9, A, cap, hc, hr⟩ := hw.core
  have m0 := (he.at (hc u)).1
  have m1 := he.sub _ _ h1
  have m2 := he.sub _ _ h2
  have m3 := he.sub _ _ h3
  refine Fn.of is81 (by simp) fun hwf => ?_
  simp only [b81, Tryz.f81, Option.getD_some]
  simp -implicitDefEqProofs (disch := first | omega | (simp only [St.set_n, St.up_n, List.length_cons, List.length_nil]; omega)) only [go_sem, Nat.reduceAdd, Nat.reduceMul, Nat.reduceSub, Int.reduceAdd, Int.reduceMul, Int.reduceSub, Int.reduceNeg, Int.reduceToNat, m0, m1, m2, m3]
  refine effD_cut (by kernel_rfl) ?_
  intro jj hjj
  simp -implicitDefEqProofs (disch := first | omega | (simp only [St.set_n, St.up_n, List.length_cons, List.length_nil]; omega)) only [go_sem, Nat.reduceAdd, Nat.reduceMul, Nat.reduceSub, Int.reduceAdd, Int.reduceMul, Int.reduceSub, Int.reduceNeg, Int.reduceToNat]
  refine callF_of (free_of (L := cL (B := B) nr rn H) (Ps := fun os u => os = [] → EndOk u.log j) (t := t) (n := n) (ψs := psC j a T) (φ := freeW (yLk hw) ((t : Int) + 1)) (al := alC j a) (rl := rlC j a T) (lv := lkPtr q.b 12) ⟨_, rfl⟩ (fun i rest u => rfl) (fun i rest u hp hr => ?_) (fun i rest u hp => ?_) [4 + (i : Int)] h G u (s.up jj) _ _
    (fun i _ => at_ok (yLk hw) hw.gr i) (fun i _ => free_ok (yLk hw) _ i) (OrdV.lit h6) (w121_ok h4 h5 hn fun u hu => hu rfl) (he.up hjj) (fun h => by cases h) fun v' s' ha' hw' => ?_)
  · subst hr
    have hp : EndOk u.log j := hp
    have e : (freeW (yLk hw) ((t : Int) + 1) i u).log = u.log := by unfold freeW; split <;> rfl
    rw [e]; exact hp
  · cases rest with
    | nil => exact ⟨rfl, rfl, rfl⟩
    | cons i' os => exact ⟨rfl, rfl, rfl⟩
  · simp -implicitDefEqProofs (disch := first | omega | (simp only [St.set_n, St.up_n, List.length_cons, List.length_nil]; omega)) only [go_sem, Nat.reduceAdd, Nat.reduceMul, Nat.reduceSub, Int.reduceAdd, Int.reduceMul, Int.reduceSub, Int.reduceNeg, Int.reduceToNat]
    intro j3 hj3
    have hn2 : s.n ≤ (s.up jj).n := by simp only [St.up_n]; omega
    exact (Aft.since (s1 := s.up jj) he (fun c _ => rfl) hn2 ha').up hj3
structure WB where
  bd : Nat
  br : Nat
  ba : Nat
  bc : Nat
  bo : Nat
  bt : Nat
  bn : Nat
  bl : Nat
structure WH (q : YB) (rri : Nat) (i t f : Nat) (nv : Value) (w : WB) (h : HF) : Prop where
  h1 : h w.bd = some (.raw (.cells #[.func (.func f) #[] #[]] 129 (0, 0)))
  h2 : h w.br = some (.raw (.cells #[.pointer (some ⟨rri, 0, none⟩)] 100 (0, 0)))
  h3 : h w.ba = some (.raw (.cells (fAn (anE 0)).toArray 64 (0, 0)))
  h4 : h w.bc = some (.raw (.cells #[.pointer (some ⟨q.c, 0, none⟩)] 27 (0, 0)))
  h5 : h w.bo = some (.raw (.cells #[.slice (some ⟨w.bl, 0, none⟩) 1 1] 22 (0, 0)))
  h6 : h w.bt = some (.raw (.cells #[.int .i64 t] 3 (0, 0)))
  h7 : h w.bn = some (.raw (.cells #[nv] 65 (0, 0)))
  h8 : h w.bl = some (.raw (.cells #[.int .i64 (4 + (i : Int))] 3 (0, 0)))
theorem w1_ok (hw : YW q nr rn rr rb H) {h0 : HF} {i j f : Nat} {d : Bool} {T : List CA} {nv : Value} {w : WB} (ht : t ≤ 1000) (hi : i < nr) (hdo : ∀ h, OpOk (cL (B := B) nr rn H) (fun u => RgOk rn (u.rg i)) f #[.pointer (some ⟨rr i, 0, none⟩)] (fun u r => r = .agg (fAn (ansC (u.rg i) d)).toArray) (fun u => u.po i d) h)
    (hn : NxN (cL (B := B) nr rn H) t n (fun _ u => EndOk u.log j) (fun a u => (u.fin j a, T)) nv h0) (hs : ∀ c y, h0 c = some y → h c = some y ∧ c ≠ w.ba) (hh : WH q (rr i) i t f nv w h) :
    NxOk (cL (B := B) nr rn H) (fun _ => True) t (n + 1 + 1) (fun u => (u, .po i j d :: T)) (.func (.func 79) #[] #[.pointer (some ⟨w.bd, 0, none⟩), .pointer (some ⟨w.br, 0, none⟩), .pointer (some ⟨w.ba, 0, none⟩), .pointer (some ⟨w.bc, 0, none⟩), .pointer (some ⟨w.bo, 0, none⟩), .pointer (some ⟨w.bt, 0, none⟩), .pointer (some ⟨w.bn, 0, none⟩)]) h := by
  refine .inr ⟨_, _, _, rfl, fun G (u : CU) s he _ => ?_⟩
  have ne : ∀ {b : Nat} {y : HP}, h b = some y → y ≠ .raw (.cells (fAn (anE 0)).toArray 64 (0, 0)) → b ≠ w.ba := fun hb hy e => by rw [e, hh.h3] at hb; exact hy (Option.some.inj hb).symm
  have n1 := ne hh.h4 (by simp [fAn])
  have n2 := ne hh.h5 (by simp [fAn])
  have n3 := ne hh.h6 (by simp [fAn])
  have n4 := ne hh.h7 (by simp [fAn])
  have n5 := ne hh.h8 (by simp [fAn])
  refine Fn.of is79 (by simp) fun hwf => ?_
  simp only [b79, Tryz.f79, Option.getD_some]
  simp -implicitDefEqProofs (disch := first | omega | (simp only [St.set_n, St.up_n, List.length_cons, List.length_nil]; omega)) only [go_sem, Nat.reduceAdd, Nat.reduceMul, Nat.reduceSub, Int.reduceAdd, Int.reduceMul, Int.reduceSub, Int.reduceNeg, Int.reduceToNat]
  refine callF_of (do_of (L := cL (B := B) nr rn H) (t := t) (n := n + 1) (a := .po i j d) (r := T) (φ := fun u => u.po i d) (η := fun u => putH h w.ba (.raw (.cells (fAn (ansC (u.rg i) d)).toArray 64 (0, 0)))) (ψ := fun u u1 => (u1, .fe (4 + (i : Int)) j (ansC (u.rg i) d) :: T))
    (w11_ok (t := t) hw hi (hdo h) hh.h1 hh.h2 hh.h3) (fun u c hc => by rw [putH_ne (fun e => by rw [e, hh.h3] at hc; cases hc)]; exact hc) ⟨rfl, rfl⟩ (fun u hu => w12_ok hw ht ((putH_ne n1).trans hh.h4) ((putH_ne n2).trans hh.h5) ((putH_ne n3).trans hh.h6) putH_eq ((putH_ne n4).trans hh.h7) ((putH_ne n5).trans hh.h8) (hn.more fun c y hc => by obtain ⟨z1, z2⟩ := hs c y hc; rw [putH_ne z2]; exact z1)) (fun u hu => ⟨rfl, rfl, rfl⟩) he fun v' s' ha hw' => ?_)
  simp -implicitDefEqProofs (disch := first | omega | (simp only [St.set_n, St.up_n, List.length_cons, List.length_nil]; omega)) only [go_sem, Nat.reduceAdd, Nat.reduceMul, Nat.reduceSub, Int.reduceAdd, Int.reduceMul, Int.reduceSub, Int.reduceNeg, Int.reduceToNat]
  exact ha
set_option maxHeartbeats 1000000 in
theorem with_of (hw : YW q nr rn rr rb H) {u : CU} {i j f : Nat} {d : Bool} {T : List CA} {nv : Value} (ht : t ≤ 1000) (hi : i < nr) (hdo : ∀ h, OpOk (cL (B := B) nr rn H) (fun u => RgOk rn (u.rg i)) f #[.pointer (some ⟨rr i, 0, none⟩)] (fun u r => r = .agg (fAn (ansC (u.rg i) d)).toArray) (fun u => u.po i d) h)
    (hn : NxN (cL (B := B) nr rn H) t n (fun _ u => EndOk u.log j) (fun a u => (u.fin j a, T)) nv h) (he : Env (cL (B := B) nr rn H) h G u s)
    (hK : ∀ v' s', Aft (cL (B := B) nr rn H) (Rep (cL (B := B) nr rn H) t (n + 1 + 1 + 1) (.lk (4 + (i : Int)) :: .po i j d :: T)) G u s v' s' → s'.wf B → K v' s') :
    Fn Tryz.prog B 55 #[.pointer (some ⟨q.c, 0, none⟩), .int .i64 t, .int .i64 ((i : Int) + 1), .func (.func f) #[] #[], nv] s K := by
  obtain ⟨v0, v1, v3, v4, v5, v6, v7, v9, A, cap, hc, hr⟩ := hw.core
  have m0 := (he.at (hc u)).1
  have hn8 := hw.n8
  refine Fn.of is55 (by simp) fun hwf => ?_
  have hB := hwf.1
  have m0n := (hwf.2 _ _ m0).2
  simp only [b55, Tryz.f55, Option.getD_some]
  simp -implicitDefEqProofs (disch := first | omega | (simp only [St.set_n, St.up_n, List.length_cons, List.length_nil]; omega)) only [go_sem, Nat.reduceAdd, Nat.reduceMul, Nat.reduceSub, Int.reduceAdd, Int.reduceMul, Int.reduceSub, Int.reduceNeg, Int.reduceToNat, hn.one.1, hn.one.2]
  have hk1 : ∀ c, c < s.n → (((((s.set s.n (.raw (.cells #[.pointer (some ⟨q.c, 0, none⟩)] 27 (0, 0)))).set (s.n + 1) (.raw (.cells #[.int .i64 t] 3 (0, 0)))).set (s.n + 1 + 1) (.raw (.cells #[.func (.func f) #[] #[]] 129 (0, 0)))).set (s.n + 1 + 1 + 1) (.raw (.cells #[nv] 65 (0, 0)))).up (s.n + 1 + 1 + 1 + 1)).m c = s.m c := fun c hc => by simp -implicitDefEqProofs (disch := first | omega | (simp only [St.set_n, St.up_n, List.length_cons, List.length_nil]; omega)) only [go_sem, Nat.reduceAdd, Nat.reduceMul, Nat.reduceSub, Int.reduceAdd, Int.reduceMul, Int.reduceSub, Int.reduceNeg, Int.reduceToNat]
  have hw1 := set_wf1 (y := .raw (.cells #[nv] 65 (0, 0))) (set_wf1 (y := .raw (.cells #[.func (.func f) #[] #[]] 129 (0, 0))) (set_wf1 (y := .raw (.cells #[.int .i64 t] 3 (0, 0))) (set_wf1 (y := .raw (.cells #[.pointer (some ⟨q.c, 0, none⟩)] 27 (0, 0))) hwf)))
  simp only [St.up_n] at hw1
  have he1 := he.grow hk1 (by simp only [St.up_n]; omega) hw1
  refine callF_of (ring_of hw he1 ?_)
  have e1 : (i : Int) + 1 - 1 = i := by omega
  rw [if_pos (by omega), e1, Int.toNat_natCast]
  have q1 : (1 : Int) ≤ (i : Int) + 1 ∧ (i : Int) + 1 ≤ 8 := by omega
  simp -implicitDefEqProofs (disch := first | omega | (simp only [St.set_n, St.up_n, List.length_cons, List.length_nil]; omega)) only [go_sem, Nat.reduceAdd, Nat.reduceMul, Nat.reduceSub, Int.reduceAdd, Int.reduceMul, Int.reduceSub, Int.reduceNeg, Int.reduceToNat]
  refine callF_of (queue_of q1 ?_)
  have e2 : (3 : Int) + ((i : Int) + 1) = 4 + (i : Int) := by omega
  rw [e2]
  simp -implicitDefEqProofs (disch := first | omega | (simp only [St.set_n, St.up_n, List.length_cons, List.length_nil]; omega)) only [go_sem, Nat.reduceAdd, Nat.reduceMul, Nat.reduceSub, Int.reduceAdd, Int.reduceMul, Int.reduceSub, Int.reduceNeg, Int.reduceToNat, m0]
  have key : ∀ s1, s1 = (((((((((s.set s.n (.raw (.cells #[.pointer (some ⟨q.c, 0, none⟩)] 27 (0, 0)))).set (s.n + 1) (.raw (.cells #[.int .i64 t] 3 (0, 0)))).set (s.n + 1 + 1) (.raw (.cells #[.func (.func f) #[] #[]] 129 (0, 0)))).set (s.n + 1 + 1 + 1) (.raw (.cells #[nv] 65 (0, 0)))).set (s.n + 1 + 1 + 1 + 1) (.raw (.cells #[.pointer (some ⟨rr i, 0, none⟩)] 100 (0, 0)))).set (s.n + 1 + 1 + 1 + 1 + 1) (.raw (.cells #[.int .i64 (4 + (i : Int))] 3 (0, 0)))).set (s.n + 1 + 1 + 1 + 1 + 1 + 1) (.raw (.cells #[.slice (some ⟨s.n + 1 + 1 + 1 + 1 + 1, 0, none⟩) 1 1] 22 (0, 0)))).set (s.n + 1 + 1 + 1 + 1 + 1 + 1 + 1) (.raw (.cells #[.int .i64 0, .int .i64 0, .int .i64 0, .string ⟨#[]⟩, .string ⟨#[]⟩, .bool false] 64 (0, 0)))).up (s.n + 1 + 1 + 1 + 1 + 1 + 1 + 1 + 1)) → (∀ c, c < s.n → s1.m c = s.m c) ∧ s1.wf B ∧ s1.n = (s.n + 1 + 1 + 1 + 1 + 1 + 1 + 1 + 1) ∧ s1.m s.n = some (.raw (.cells #[.pointer (some ⟨q.c, 0, none⟩)] 27 (0, 0))) ∧ s1.m (s.n + 1) = some (.raw (.cells #[.int .i64 t] 3 (0, 0))) ∧ s1.m (s.n + 1 + 1) = some (.raw (.cells #[.func (.func f) #[] #[]] 129 (0, 0))) ∧ s1.m (s.n + 1 + 1 + 1) = some (.raw (.cells #[nv] 65 (0, 0))) ∧ s1.m (s.n + 1 + 1 + 1 + 1) = some (.raw (.cells #[.pointer (some ⟨rr i, 0, none⟩)] 100 (0, 0))) ∧ s1.m (s.n + 1 + 1 + 1 + 1 + 1) = some (.raw (.cells #[.int .i64 (4 + (i : Int))] 3 (0, 0))) ∧ s1.m (s.n + 1 + 1 + 1 + 1 + 1 + 1) = some (.raw (.cells #[.slice (some ⟨s.n + 1 + 1 + 1 + 1 + 1, 0, none⟩) 1 1] 22 (0, 0))) ∧ s1.m (s.n + 1 + 1 + 1 + 1 + 1 + 1 + 1) = some (.raw (.cells #[.int .i64 0, .int .i64 0, .int .i64 0, .string ⟨#[]⟩, .string ⟨#[]⟩, .bool false] 64 (0, 0))) := by
    rintro s1 rfl
    have hw := (set_wf1 (y := (.raw (.cells #[.int .i64 0, .int .i64 0, .int .i64 0, .string ⟨#[]⟩, .string ⟨#[]⟩, .bool false] 64 (0, 0)))) (set_wf1 (y := (.raw (.cells #[.slice (some ⟨s.n + 1 + 1 + 1 + 1 + 1, 0, none⟩) 1 1] 22 (0, 0)))) (set_wf1 (y := (.raw (.cells #[.int .i64 (4 + (i : Int))] 3 (0, 0)))) (set_wf1 (y := (.raw (.cells #[.pointer (some ⟨rr i, 0, none⟩)] 100 (0, 0)))) (set_wf1 (y := (.raw (.cells #[nv] 65 (0, 0)))) (set_wf1 (y := (.raw (.cells #[.func (.func f) #[] #[]] 129 (0, 0)))) (set_wf1 (y := (.raw (.cells #[.int .i64 t] 3 (0, 0)))) (set_wf1 (y := (.raw (.cells #[.pointer (some ⟨q.c, 0, none⟩)] 27 (0, 0)))) hwf))))))))
    simp only [St.up_n] at hw
    exact ⟨fun c hc => by simp -implicitDefEqProofs (disch := first | omega | (simp only [St.set_n, St.up_n, List.length_cons, List.length_nil]; omega)) only [go_sem, Nat.reduceAdd, Nat.reduceMul, Nat.reduceSub, Int.reduceAdd, Int.reduceMul, Int.reduceSub, Int.reduceNeg, Int.reduceToNat], hw, rfl, by simp -implicitDefEqProofs (disch := first | omega | (simp only [St.set_n, St.up_n, List.length_cons, List.length_nil]; omega)) only [go_sem, Nat.reduceAdd, Nat.reduceMul, Nat.reduceSub, Int.reduceAdd, Int.reduceMul, Int.reduceSub, Int.reduceNeg, Int.reduceToNat], by simp -implicitDefEqProofs (disch := first | omega | (simp only [St.set_n, St.up_n, List.length_cons, List.length_nil]; omega)) only [go_sem, Nat.reduceAdd, Nat.reduceMul, Nat.reduceSub, Int.reduceAdd, Int.reduceMul, Int.reduceSub, Int.reduceNeg, Int.reduceToNat], by simp -implicitDefEqProofs (disch := first | omega | (simp only [St.set_n, St.up_n, List.length_cons, List.length_nil]; omega)) only [go_sem, Nat.reduceAdd, Nat.reduceMul, Nat.reduceSub, Int.reduceAdd, Int.reduceMul, Int.reduceSub, Int.reduceNeg, Int.reduceToNat], by simp -implicitDefEqProofs (disch := first | omega | (simp only [St.set_n, St.up_n, List.length_cons, List.length_nil]; omega)) only [go_sem, Nat.reduceAdd, Nat.reduceMul, Nat.reduceSub, Int.reduceAdd, Int.reduceMul, Int.reduceSub, Int.reduceNeg, Int.reduceToNat], by simp -implicitDefEqProofs (disch := first | omega | (simp only [St.set_n, St.up_n, List.length_cons, List.length_nil]; omega)) only [go_sem, Nat.reduceAdd, Nat.reduceMul, Nat.reduceSub, Int.reduceAdd, Int.reduceMul, Int.reduceSub, Int.reduceNeg, Int.reduceToNat], by simp -implicitDefEqProofs (disch := first | omega | (simp only [St.set_n, St.up_n, List.length_cons, List.length_nil]; omega)) only [go_sem, Nat.reduceAdd, Nat.reduceMul, Nat.reduceSub, Int.reduceAdd, Int.reduceMul, Int.reduceSub, Int.reduceNeg, Int.reduceToNat], by simp -implicitDefEqProofs (disch := first | omega | (simp only [St.set_n, St.up_n, List.length_cons, List.length_nil]; omega)) only [go_sem, Nat.reduceAdd, Nat.reduceMul, Nat.reduceSub, Int.reduceAdd, Int.reduceMul, Int.reduceSub, Int.reduceNeg, Int.reduceToNat], by simp -implicitDefEqProofs (disch := first | omega | (simp only [St.set_n, St.up_n, List.length_cons, List.length_nil]; omega)) only [go_sem, Nat.reduceAdd, Nat.reduceMul, Nat.reduceSub, Int.reduceAdd, Int.reduceMul, Int.reduceSub, Int.reduceNeg, Int.reduceToNat]⟩
  obtain ⟨hk, hw2, hn1, p0, p1, p2, p3, p4, p5, p6, p7⟩ := key _ rfl
  generalize (((((((((s.set s.n (.raw (.cells #[.pointer (some ⟨q.c, 0, none⟩)] 27 (0, 0)))).set (s.n + 1) (.raw (.cells #[.int .i64 t] 3 (0, 0)))).set (s.n + 1 + 1) (.raw (.cells #[.func (.func f) #[] #[]] 129 (0, 0)))).set (s.n + 1 + 1 + 1) (.raw (.cells #[nv] 65 (0, 0)))).set (s.n + 1 + 1 + 1 + 1) (.raw (.cells #[.pointer (some ⟨rr i, 0, none⟩)] 100 (0, 0)))).set (s.n + 1 + 1 + 1 + 1 + 1) (.raw (.cells #[.int .i64 (4 + (i : Int))] 3 (0, 0)))).set (s.n + 1 + 1 + 1 + 1 + 1 + 1) (.raw (.cells #[.slice (some ⟨s.n + 1 + 1 + 1 + 1 + 1, 0, none⟩) 1 1] 22 (0, 0)))).set (s.n + 1 + 1 + 1 + 1 + 1 + 1 + 1) (.raw (.cells #[.int .i64 0, .int .i64 0, .int .i64 0, .string ⟨#[]⟩, .string ⟨#[]⟩, .bool false] 64 (0, 0)))).up (s.n + 1 + 1 + 1 + 1 + 1 + 1 + 1 + 1)) = s1 at hk hw2 hn1 p0 p1 p2 p3 p4 p5 p6 p7 ⊢
  refine effD_cut (by kernel_rfl) ?_
  intro jj hjj
  simp -implicitDefEqProofs (disch := first | omega | (simp only [St.set_n, St.up_n, List.length_cons, List.length_nil]; omega)) only [go_sem, Nat.reduceAdd, Nat.reduceMul, Nat.reduceSub, Int.reduceAdd, Int.reduceMul, Int.reduceSub, Int.reduceNeg, Int.reduceToNat]
  have he1 := he.grow hk (by omega) hw2
  have he2 := he1.up hjj
  have hnx : NxOk (cL (B := B) nr rn H) (fun _ => True) t (n + 1 + 1) (fun u => (u, .po i j d :: T)) (.func (.func 79) #[] #[.pointer (some ⟨s.n + 1 + 1, 0, none⟩), .pointer (some ⟨s.n + 1 + 1 + 1 + 1, 0, none⟩), .pointer (some ⟨s.n + 1 + 1 + 1 + 1 + 1 + 1 + 1, 0, none⟩), .pointer (some ⟨s.n, 0, none⟩), .pointer (some ⟨s.n + 1 + 1 + 1 + 1 + 1 + 1, 0, none⟩), .pointer (some ⟨s.n + 1, 0, none⟩), .pointer (some ⟨s.n + 1 + 1 + 1, 0, none⟩)]) (grow h s s1) := w1_ok (h0 := h) (w := ⟨s.n + 1 + 1, s.n + 1 + 1 + 1 + 1, s.n + 1 + 1 + 1 + 1 + 1 + 1 + 1, s.n, s.n + 1 + 1 + 1 + 1 + 1 + 1, s.n + 1, s.n + 1 + 1 + 1, s.n + 1 + 1 + 1 + 1 + 1⟩) hw ht hi hdo hn (fun c y hc => ⟨he.gsub c y hc, by have := he.hlt hc; simp only; omega⟩) ⟨gro (by simp only; omega) p2, gro (by simp only; omega) p4, gro (by simp only; omega) p7, gro (by simp only; omega) p0, gro (by simp only; omega) p6, gro (by simp only; omega) p1, gro (by simp only; omega) p3, gro (by simp only; omega) p5⟩
  refine callF_of (locks_of (L := cL (B := B) nr rn H) (t := t) (n := n + 1 + 1) (al := .lk) (T := .po i j d :: T) (ok := tryO (yLk hw) ((t : Int) + 1)) (φ := tryW (yLk hw) ((t : Int) + 1)) (lv := lkPtr q.b 12) ⟨_, rfl⟩ (lkPtr_pt _ _) [4 + (i : Int)] (grow h s s1) G u (s1.up jj) _ _
    (fun i _ => at_ok (yLk hw) hw.gr i) (fun i _ => try_ok (yLk hw) _ i) (fun i _ u => ⟨rfl, rfl, fun _ => rfl⟩) (OrdV.lit (gro (by omega) p5)) hnx he2 fun v' s' ha hw' => ?_)
  simp -implicitDefEqProofs (disch := first | omega | (simp only [St.set_n, St.up_n, List.length_cons, List.length_nil]; omega)) only [go_sem, Nat.reduceAdd, Nat.reduceMul, Nat.reduceSub, Int.reduceAdd, Int.reduceMul, Int.reduceSub, Int.reduceNeg, Int.reduceToNat]
  intro j3 hj3
  have hn2 : s.n ≤ (s1.up jj).n := by simp only [St.up_n]; omega
  exact hK _ _ ((Aft.since (s1 := s1.up jj) he hk hn2 ha).up hj3) (hw'.up hj3)
/-- 'Poll' and 'Drops'. -/
theorem poll_of (hw : YW q nr rn rr rb H) {u : CU} {i j : Nat} {T : List CA} {nv : Value} (ht : t ≤ 1000) (hi : i < nr) (hn : NxN (cL (B := B) nr rn H) t n (fun _ u => EndOk u.log j) (fun a u => (u.fin j a, T)) nv h) (he : Env (cL (B := B) nr rn H) h G u s)
    (hK : ∀ v' s', Aft (cL (B := B) nr rn H) (Rep (cL (B := B) nr rn H) t (n + 1 + 1 + 1) (.lk (4 + (i : Int)) :: .po i j false :: T)) G u s v' s' → s'.wf B → K v' s') :
    Fn Tryz.prog B 20 #[.pointer (some ⟨q.c, 0, none⟩), .int .i64 t, .int .i64 ((i : Int) + 1), nv] s K := by
  refine Fn.of is20 (by simp) fun hwf => ?_
  simp only [b20, Tryz.f20, Option.getD_some]
  simp -implicitDefEqProofs (disch := first | omega | (simp only [St.set_n, St.up_n, List.length_cons, List.length_nil]; omega)) only [go_sem, Nat.reduceAdd, Nat.reduceMul, Nat.reduceSub, Int.reduceAdd, Int.reduceMul, Int.reduceSub, Int.reduceNeg, Int.reduceToNat]
  refine callF_of (with_of hw ht hi (fun h => poll_ok hw hi) hn he fun v' s' ha hw' => ?_)
  simp -implicitDefEqProofs (disch := first | omega | (simp only [St.set_n, St.up_n, List.length_cons, List.length_nil]; omega)) only [go_sem, Nat.reduceAdd, Nat.reduceMul, Nat.reduceSub, Int.reduceAdd, Int.reduceMul, Int.reduceSub, Int.reduceNeg, Int.reduceToNat]
  exact hK _ _ ha hw'
theorem drops_of (hw : YW q nr rn rr rb H) {u : CU} {i j : Nat} {T : List CA} {nv : Value} (ht : t ≤ 1000) (hi : i < nr) (hn : NxN (cL (B := B) nr rn H) t n (fun _ u => EndOk u.log j) (fun a u => (u.fin j a, T)) nv h) (he : Env (cL (B := B) nr rn H) h G u s)
    (hK : ∀ v' s', Aft (cL (B := B) nr rn H) (Rep (cL (B := B) nr rn H) t (n + 1 + 1 + 1) (.lk (4 + (i : Int)) :: .po i j true :: T)) G u s v' s' → s'.wf B → K v' s') :
    Fn Tryz.prog B 21 #[.pointer (some ⟨q.c, 0, none⟩), .int .i64 t, .int .i64 ((i : Int) + 1), nv] s K := by
  refine Fn.of is21 (by simp) fun hwf => ?_
  simp only [b21, Tryz.f21, Option.getD_some]
  simp -implicitDefEqProofs (disch := first | omega | (simp only [St.set_n, St.up_n, List.length_cons, List.length_nil]; omega)) only [go_sem, Nat.reduceAdd, Nat.reduceMul, Nat.reduceSub, Int.reduceAdd, Int.reduceMul, Int.reduceSub, Int.reduceNeg, Int.reduceToNat]
  refine callF_of (with_of hw ht hi (fun h => drop_ok hw hi) hn he fun v' s' ha hw' => ?_)
  simp -implicitDefEqProofs (disch := first | omega | (simp only [St.set_n, St.up_n, List.length_cons, List.length_nil]; omega)) only [go_sem, Nat.reduceAdd, Nat.reduceMul, Nat.reduceSub, Int.reduceAdd, Int.reduceMul, Int.reduceSub, Int.reduceNeg, Int.reduceToNat]
  exact hK _ _ ha hw'
end
end Go.Proofs.YtdbgeahmhfocaaaGreat
