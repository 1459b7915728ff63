/- The texts of this proof, part 4: the engine, the walks and the plain laws, in their order. -/
import Derived.Test.YtdbgeahmhfocaaaGreatPart3
/- The core's 'with': contracts, by walks. -/
namespace Go.Proofs.YtdbgeahmhfocaaaGreat
set_option linter.unusedSimpArgs false
set_option linter.unusedVariables false
set_option maxRecDepth 100000
open Go Go.RowKit
section
variable {B : World} {q : YB} {nr rn : Nat} {rr rb : Nat → Nat} {H : CU → HF} {K : Value → St → Prop} {G : Nat → Prop} {h : HF} {s : St} {t n : Nat}
theorem ring_of (hw : YW q nr rn rr rb H) {u : CU} (he : Env (cL (B := B) nr rn H) h G u s) {sub : Int} (hK : K (if 1 ≤ sub ∧ sub ≤ nr then .pointer (some ⟨rr (sub - 1).toNat, 0, none⟩) else .pointer none) s) : Fn Tryz.prog B 31 #[.pointer (some ⟨q.c, 0, none⟩), .int .i64 sub] s K := by
  obtain ⟨v0, v1, v3, v4, v5, v6, v7, v9, A, cap, hc, hr⟩ := hw.core
  have o1 := (he.at (hc u)).1
  have hn8 := hw.n8
  refine Fn.of is31 (by simp) fun hwf => ?_
  simp only [b31, Tryz.f31, Option.getD_some]
  by_cases h1 : sub < 1
  · rw [if_neg (by omega)] at hK
    simp -implicitDefEqProofs (disch := first | omega | (simp only [St.set_n, St.up_n, List.length_cons, List.length_nil]; omega)) only [go_sem, Nat.reduceAdd, Nat.reduceMul, Nat.reduceSub, Int.reduceAdd, Int.reduceMul, Int.reduceSub, Int.reduceNeg, Int.reduceToNat, o1, h1]
    exact hK
  · by_cases h2 : (nr : Int) < sub
    · rw [if_neg (by omega)] at hK
      simp -implicitDefEqProofs (disch := first | omega | (simp only [St.set_n, St.up_n, List.length_cons, List.length_nil]; omega)) only [go_sem, Nat.reduceAdd, Nat.reduceMul, Nat.reduceSub, Int.reduceAdd, Int.reduceMul, Int.reduceSub, Int.reduceNeg, Int.reduceToNat, o1, h1, h2]
      exact hK
    · obtain ⟨rk, cs, ty, rfl, hrk, hcs⟩ := hr (by omega)
      have o2 := (he.at (hrk u)).1
      obtain ⟨i, rfl⟩ : ∃ i : Nat, sub = (i : Int) + 1 := ⟨(sub - 1).toNat, by omega⟩
      have hi : i < nr := by omega
      have e1 : (i : Int) + 1 - 1 = i := by omega
      rw [if_pos (by omega), e1, Int.toNat_natCast] at hK
      have x0 := hcs i hi
      have e2 : (i : Int) < nr := by omega
      simp -implicitDefEqProofs (disch := first | omega | (simp only [St.set_n, St.up_n, List.length_cons, List.length_nil]; omega)) only [go_sem, Nat.reduceAdd, Nat.reduceMul, Nat.reduceSub, Int.reduceAdd, Int.reduceMul, Int.reduceSub, Int.reduceNeg, Int.reduceToNat, o1, h1, h2, e1, e2, o2, x0]
      exact hK
theorem queue_of {sub : Int} (h8 : 1 ≤ sub ∧ sub ≤ 8) (hK : K (.int .i64 (3 + sub)) s) : Fn Tryz.prog B 77 #[.int .i64 sub] s K := by
  have h1 : ¬ sub < 1 := by omega
  have h2 : ¬ 8 < sub := by omega
  refine Fn.of is77 (by simp) fun hwf => ?_
  simp only [b77, Tryz.f77, Option.getD_some]
  simp -implicitDefEqProofs (disch := first | omega | (simp only [St.set_n, St.up_n, List.length_cons, List.length_nil]; omega)) only [go_sem, Nat.reduceAdd, Nat.reduceMul, Nat.reduceSub, Int.reduceAdd, Int.reduceMul, Int.reduceSub, Int.reduceNeg, Int.reduceToNat, h1, h2]
  exact hK
theorem w11_ok (hw : YW q nr rn rr rb H) {i j : Nat} {d : Bool} (hi : i < nr) {f : Nat} {bd br ba : Nat} {a0 : CAn} (hdo : OpOk (cL (B := B) nr rn H) (fun u => RgOk rn (u.rg i)) f #[.pointer (some ⟨rr i, 0, none⟩)] (fun u r => r = .agg (fAn (ansC (u.rg i) d)).toArray) (fun u => u.po i d) h)
    (h1 : h bd = some (.raw (.cells #[.func (.func f) #[] #[]] 129 (0, 0)))) (h2 : h br = some (.raw (.cells #[.pointer (some ⟨rr i, 0, none⟩)] 100 (0, 0)))) (h3 : h ba = some (.raw (.cells (fAn a0).toArray 64 (0, 0)))) :
    FxOk (cL (B := B) nr rn H) (fun u => preC rn t u (.po i j d)) (fun u => u.po i d) (fun u => putH h ba (.raw (.cells (fAn (ansC (u.rg i) d)).toArray 64 (0, 0)))) (.func (.func 80) #[] #[.pointer (some ⟨bd, 0, none⟩), .pointer (some ⟨br, 0, none⟩), .pointer (some ⟨ba, 0, none⟩)]) h := by
  refine .inr ⟨_, _, _, rfl, fun G (u : CU) s he hp => ?_⟩
  have m1 := he.sub _ _ h1
  have m2 := he.sub _ _ h2
  refine Fn.of is80 (by simp) fun hwf => ?_
  simp only [b80, Tryz.f80, Option.getD_some]
  simp -implicitDefEqProofs (disch := first | omega | (simp only [St.set_n, St.up_n, List.length_cons, List.length_nil]; omega)) only [go_sem, Nat.reduceAdd, Nat.reduceMul, Nat.reduceSub, Int.reduceAdd, Int.reduceMul, Int.reduceSub, Int.reduceNeg, Int.reduceToNat, m1, m2]
  refine callF_wf ((hdo G u s he hp.1).mono fun r s' ⟨hr, ha⟩ hw' => ?_)
  subst hr
  obtain ⟨h', rfl, he'⟩ := ha.env he (fun c hc => .inl hc) hw'
  have m3 := he'.sub _ _ h3
  generalize ansC (u.rg i) d = a
  simp -implicitDefEqProofs (disch := first | omega | (simp only [St.set_n, St.up_n, List.length_cons, List.length_nil]; omega)) only [go_sem, Nat.reduceAdd, Nat.reduceMul, Nat.reduceSub, Int.reduceAdd, Int.reduceMul, Int.reduceSub, Int.reduceNeg, Int.reduceToNat, m3, fAn]
  have := ha.put (b := ba) (by rw [h3]; simp) (.raw (.cells (fAn a).toArray 64 (0, 0)))
  simp only [fAn] at this
  first | exact this | skip
def alC (j : Nat) (a : CAn) : List Int → CA
  | [i] => .fe i j a
  | i :: _ => .fr i
  | [] => .fr 0
def rlC (j : Nat) (a : CAn) (T : List CA) : List Int → List CA
  | [] => T
  | [_] => T
  | _ :: i' :: os => alC j a (i' :: os) :: rlC j a T (i' :: os)
def psC (j : Nat) (a : CAn) (T : List CA) : List Int → CU → CU × List CA
  | [], u => (u.fin j a, T)
  | i :: os, u => (u, alC j a (i :: os) :: rlC j a T (i :: os))
theorem w12_ok (hw : YW q nr rn rr rb H) {i j : Nat} {T : List CA} {a : CAn} {bc bo bt ba bn bl : Nat} {nv : Value} (ht : t ≤ 1000) (h1 : h bc = some (.raw (.cells #[.pointer (some ⟨q.c, 0, none⟩)] 27 (0, 0)))) (h2 : h bo = some (.raw (.cells #[.slice (some ⟨bl, 0, none⟩) 1 1] 22 (0, 0)))) (h3 : h bt = some (.raw (.cells #[.int .i64 t] 3 (0, 0))))
    (h4 : h ba = some (.raw (.cells (fAn a).toArray 64 (0, 0)))) (h5 : h bn = some (.raw (.cells #[nv] 65 (0, 0)))) (h6 : h bl = some (.raw (.cells #[.int .i64 (4 + (i : Int))] 3 (0, 0)))) (hn : NxN (cL (B := B) nr rn H) t n (fun _ u => EndOk u.log j) (fun a u => (u.fin j a, T)) nv h) {Q : CU → Prop} :
    NxOk (cL (B := B) nr rn H) Q t (n + 1) (fun u => (u, .fe (4 + (i : Int)) j a :: T)) (.func (.func 81) #[] #[.pointer (some ⟨bc, 0, none⟩), .pointer (some ⟨bo, 0, none⟩), .pointer (some ⟨bt, 0, none⟩), .pointer (some ⟨ba, 0, none⟩), .pointer (some ⟨bn, 0, none⟩)]) h := by
  refine .inr ⟨_, _, _, rfl, fun G (u : CU) s he _ => ?_⟩
  obtain ⟨v0, v1, v3, v4, v5, v6, v7, v9, A, cap, hc, hr⟩ := hw.core
  have m0 := (he.at (hc u)).1
  have m1 := he.sub _ _ h1
  have m2 := he.sub _ _ h2
  have m3 := he.sub _ _ h3
  refine Fn.of is81 (by simp) fun hwf => ?_
  simp only [b81, Tryz.f81, Option.getD_some]
  simp -implicitDefEqProofs (disch := first | omega | (simp only [St.set_n, St.up_n, List.length_cons, List.length_nil]; omega)) only [go_sem, Nat.reduceAdd, Nat.reduceMul, Nat.reduceSub, Int.reduceAdd, Int.reduceMul, Int.reduceSub, Int.reduceNeg, Int.reduceToNat, m0, m1, m2, m3]
  refine effD_cut (by kernel_rfl) ?_
  intro jj hjj
  simp -implicitDefEqProofs (disch := first | omega | (simp only [St.set_n, St.up_n, List.length_cons, List.length_nil]; omega)) only [go_sem, Nat.reduceAdd, Nat.reduceMul, Nat.reduceSub, Int.reduceAdd, Int.reduceMul, Int.reduceSub, Int.reduceNeg, Int.reduceToNat]
  refine callF_of (free_of (L := cL (B := B) nr rn H) (Ps := fun os u => os = [] → EndOk u.log j) (t := t) (n := n) (ψs := psC j a T) (φ := freeW (yLk hw) ((t : Int) + 1)) (al := alC j a) (rl := rlC j a T) (lv := lkPtr q.b 12) ⟨_, rfl⟩ (fun i rest u => rfl) (fun i rest u hp hr => ?_) (fun i rest u hp => ?_) [4 + (i : Int)] h G u (s.up jj) _ _
    (fun i _ => at_ok (yLk hw) hw.gr i) (fun i _ => free_ok (yLk hw) _ i) (OrdV.lit h6) (w121_ok h4 h5 hn fun u hu => hu rfl) (he.up hjj) (fun h => by cases h) fun v' s' ha' hw' => ?_)
  · subst hr
    have hp : EndOk u.log j := hp
    have e : (freeW (yLk hw) ((t : Int) + 1) i u).log = u.log := by unfold freeW; split <;> rfl
    rw [e]; exact hp
  · cases rest with
    | nil => exact ⟨rfl, rfl, rfl⟩
    | cons i' os => exact ⟨rfl, rfl, rfl⟩
  · simp -implicitDefEqProofs (disch := first | omega | (simp only [St.set_n, St.up_n, List.length_cons, List.length_nil]; omega)) only [go_sem, Nat.reduceAdd, Nat.reduceMul, Nat.reduceSub, Int.reduceAdd, Int.reduceMul, Int.reduceSub, Int.reduceNeg, Int.reduceToNat]
    intro j3 hj3
    have hn2 : s.n ≤ (s.up jj).n := by simp only [St.up_n]; omega
    exact (Aft.since (s1 := s.up jj) he (fun c _ => rfl) hn2 ha').up hj3
structure WB where
  bd : Nat
  br : Nat
  ba : Nat
  bc : Nat
  bo : Nat
  bt : Nat
  bn : Nat
  bl : Nat
structure WH (q : YB) (rri : Nat) (i t f : Nat) (nv : Value) (w : WB) (h : HF) : Prop where
  h1 : h w.bd = some (.raw (.cells #[.func (.func f) #[] #[]] 129 (0, 0)))
  h2 : h w.br = some (.raw (.cells #[.pointer (some ⟨rri, 0, none⟩)] 100 (0, 0)))
  h3 : h w.ba = some (.raw (.cells (fAn (anE 0)).toArray 64 (0, 0)))
  h4 : h w.bc = some (.raw (.cells #[.pointer (some ⟨q.c, 0, none⟩)] 27 (0, 0)))
  h5 : h w.bo = some (.raw (.cells #[.slice (some ⟨w.bl, 0, none⟩) 1 1] 22 (0, 0)))
  h6 : h w.bt = some (.raw (.cells #[.int .i64 t] 3 (0, 0)))
  h7 : h w.bn = some (.raw (.cells #[nv] 65 (0, 0)))
  h8 : h w.bl = some (.raw (.cells #[.int .i64 (4 + (i : Int))] 3 (0, 0)))
theorem w1_ok (hw : YW q nr rn rr rb H) {h0 : HF} {i j f : Nat} {d : Bool} {T : List CA} {nv : Value} {w : WB} (ht : t ≤ 1000) (hi : i < nr) (hdo : ∀ h, OpOk (cL (B := B) nr rn H) (fun u => RgOk rn (u.rg i)) f #[.pointer (some ⟨rr i, 0, none⟩)] (fun u r => r = .agg (fAn (ansC (u.rg i) d)).toArray) (fun u => u.po i d) h)
    (hn : NxN (cL (B := B) nr rn H) t n (fun _ u => EndOk u.log j) (fun a u => (u.fin j a, T)) nv h0) (hs : ∀ c y, h0 c = some y → h c = some y ∧ c ≠ w.ba) (hh : WH q (rr i) i t f nv w h) :
    NxOk (cL (B := B) nr rn H) (fun _ => True) t (n + 1 + 1) (fun u => (u, .po i j d :: T)) (.func (.func 79) #[] #[.pointer (some ⟨w.bd, 0, none⟩), .pointer (some ⟨w.br, 0, none⟩), .pointer (some ⟨w.ba, 0, none⟩), .pointer (some ⟨w.bc, 0, none⟩), .pointer (some ⟨w.bo, 0, none⟩), .pointer (some ⟨w.bt, 0, none⟩), .pointer (some ⟨w.bn, 0, none⟩)]) h := by
  refine .inr ⟨_, _, _, rfl, fun G (u : CU) s he _ => ?_⟩
  have ne : ∀ {b : Nat} {y : HP}, h b = some y → y ≠ .raw (.cells (fAn (anE 0)).toArray 64 (0, 0)) → b ≠ w.ba := fun hb hy e => by rw [e, hh.h3] at hb; exact hy (Option.some.inj hb).symm
  have n1 := ne hh.h4 (by simp [fAn])
  have n2 := ne hh.h5 (by simp [fAn])
  have n3 := ne hh.h6 (by simp [fAn])
  have n4 := ne hh.h7 (by simp [fAn])
  have n5 := ne hh.h8 (by simp [fAn])
  refine Fn.of is79 (by simp) fun hwf => ?_
  simp only [b79, Tryz.f79, Option.getD_some]
  simp -implicitDefEqProofs (disch := first | omega | (simp only [St.set_n, St.up_n, List.length_cons, List.length_nil]; omega)) only [go_sem, Nat.reduceAdd, Nat.reduceMul, Nat.reduceSub, Int.reduceAdd, Int.reduceMul, Int.reduceSub, Int.reduceNeg, Int.reduceToNat]
  refine callF_of (do_of (L := cL (B := B) nr rn H) (t := t) (n := n + 1) (a := .po i j d) (r := T) (φ := fun u => u.po i d) (η := fun u => putH h w.ba (.raw (.cells (fAn (ansC (u.rg i) d)).toArray 64 (0, 0)))) (ψ := fun u u1 => (u1, .fe (4 + (i : Int)) j (ansC (u.rg i) d) :: T))
    (w11_ok (t := t) hw hi (hdo h) hh.h1 hh.h2 hh.h3) (fun u c hc => by rw [putH_ne (fun e => by rw [e, hh.h3] at hc; cases hc)]; exact hc) ⟨rfl, rfl⟩ (fun u hu => w12_ok hw ht ((putH_ne n1).trans hh.h4) ((putH_ne n2).trans hh.h5) ((putH_ne n3).trans hh.h6) putH_eq ((putH_ne n4).trans hh.h7) ((putH_ne n5).trans hh.h8) (hn.more fun c y hc => by obtain ⟨z1, z2⟩ := hs c y hc; rw [putH_ne z2]; exact z1)) (fun u hu => ⟨rfl, rfl, rfl⟩) he fun v' s' ha hw' => ?_)
  simp -implicitDefEqProofs (disch := first | omega | (simp only [St.set_n, St.up_n, List.length_cons, List.length_nil]; omega)) only [go_sem, Nat.reduceAdd, Nat.reduceMul, Nat.reduceSub, Int.reduceAdd, Int.reduceMul, Int.reduceSub, Int.reduceNeg, Int.reduceToNat]
  exact ha
set_option maxHeartbeats 1000000 in
theorem with_of (hw : YW q nr rn rr rb H) {u : CU} {i j f : Nat} {d : Bool} {T : List CA} {nv : Value} (ht : t ≤ 1000) (hi : i < nr) (hdo : ∀ h, OpOk (cL (B := B) nr rn H) (fun u => RgOk rn (u.rg i)) f #[.pointer (some ⟨rr i, 0, none⟩)] (fun u r => r = .agg (fAn (ansC (u.rg i) d)).toArray) (fun u => u.po i d) h)
    (hn : NxN (cL (B := B) nr rn H) t n (fun _ u => EndOk u.log j) (fun a u => (u.fin j a, T)) nv h) (he : Env (cL (B := B) nr rn H) h G u s)
    (hK : ∀ v' s', Aft (cL (B := B) nr rn H) (Rep (cL (B := B) nr rn H) t (n + 1 + 1 + 1) (.lk (4 + (i : Int)) :: .po i j d :: T)) G u s v' s' → s'.wf B → K v' s') :
    Fn Tryz.prog B 55 #[.pointer (some ⟨q.c, 0, none⟩), .int .i64 t, .int .i64 ((i : Int) + 1), .func (.func f) #[] #[], nv] s K := by
  obtain ⟨v0, v1, v3, v4, v5, v6, v7, v9, A, cap, hc, hr⟩ := hw.core
  have m0 := (he.at (hc u)).1
  have hn8 := hw.n8
  refine Fn.of is55 (by simp) fun hwf => ?_
  have hB := hwf.1
  have m0n := (hwf.2 _ _ m0).2
  simp only [b55, Tryz.f55, Option.getD_some]
  simp -implicitDefEqProofs (disch := first | omega | (simp only [St.set_n, St.up_n, List.length_cons, List.length_nil]; omega)) only [go_sem, Nat.reduceAdd, Nat.reduceMul, Nat.reduceSub, Int.reduceAdd, Int.reduceMul, Int.reduceSub, Int.reduceNeg, Int.reduceToNat, hn.one.1, hn.one.2]
  have hk1 : ∀ c, c < s.n → (((((s.set s.n (.raw (.cells #[.pointer (some ⟨q.c, 0, none⟩)] 27 (0, 0)))).set (s.n + 1) (.raw (.cells #[.int .i64 t] 3 (0, 0)))).set (s.n + 1 + 1) (.raw (.cells #[.func (.func f) #[] #[]] 129 (0, 0)))).set (s.n + 1 + 1 + 1) (.raw (.cells #[nv] 65 (0, 0)))).up (s.n + 1 + 1 + 1 + 1)).m c = s.m c := fun c hc => by simp -implicitDefEqProofs (disch := first | omega | (simp only [St.set_n, St.up_n, List.length_cons, List.length_nil]; omega)) only [go_sem, Nat.reduceAdd, Nat.reduceMul, Nat.reduceSub, Int.reduceAdd, Int.reduceMul, Int.reduceSub, Int.reduceNeg, Int.reduceToNat]
  have hw1 := set_wf1 (y := .raw (.cells #[nv] 65 (0, 0))) (set_wf1 (y := .raw (.cells #[.func (.func f) #[] #[]] 129 (0, 0))) (set_wf1 (y := .raw (.cells #[.int .i64 t] 3 (0, 0))) (set_wf1 (y := .raw (.cells #[.pointer (some ⟨q.c, 0, none⟩)] 27 (0, 0))) hwf)))
  simp only [St.up_n] at hw1
  have he1 := he.grow hk1 (by simp only [St.up_n]; omega) hw1
  refine callF_of (ring_of hw he1 ?_)
  have e1 : (i : Int) + 1 - 1 = i := by omega
  rw [if_pos (by omega), e1, Int.toNat_natCast]
  have q1 : (1 : Int) ≤ (i : Int) + 1 ∧ (i : Int) + 1 ≤ 8 := by omega
  simp -implicitDefEqProofs (disch := first | omega | (simp only [St.set_n, St.up_n, List.length_cons, List.length_nil]; omega)) only [go_sem, Nat.reduceAdd, Nat.reduceMul, Nat.reduceSub, Int.reduceAdd, Int.reduceMul, Int.reduceSub, Int.reduceNeg, Int.reduceToNat]
  refine callF_of (queue_of q1 ?_)
  have e2 : (3 : Int) + ((i : Int) + 1) = 4 + (i : Int) := by omega
  rw [e2]
  simp -implicitDefEqProofs (disch := first | omega | (simp only [St.set_n, St.up_n, List.length_cons, List.length_nil]; omega)) only [go_sem, Nat.reduceAdd, Nat.reduceMul, Nat.reduceSub, Int.reduceAdd, Int.reduceMul, Int.reduceSub, Int.reduceNeg, Int.reduceToNat, m0]
  have key : ∀ s1, s1 = (((((((((s.set s.n (.raw (.cells #[.pointer (some ⟨q.c, 0, none⟩)] 27 (0, 0)))).set (s.n + 1) (.raw (.cells #[.int .i64 t] 3 (0, 0)))).set (s.n + 1 + 1) (.raw (.cells #[.func (.func f) #[] #[]] 129 (0, 0)))).set (s.n + 1 + 1 + 1) (.raw (.cells #[nv] 65 (0, 0)))).set (s.n + 1 + 1 + 1 + 1) (.raw (.cells #[.pointer (some ⟨rr i, 0, none⟩)] 100 (0, 0)))).set (s.n + 1 + 1 + 1 + 1 + 1) (.raw (.cells #[.int .i64 (4 + (i : Int))] 3 (0, 0)))).set (s.n + 1 + 1 + 1 + 1 + 1 + 1) (.raw (.cells #[.slice (some ⟨s.n + 1 + 1 + 1 + 1 + 1, 0, none⟩) 1 1] 22 (0, 0)))).set (s.n + 1 + 1 + 1 + 1 + 1 + 1 + 1) (.raw (.cells #[.int .i64 0, .int .i64 0, .int .i64 0, .string ⟨#[]⟩, .string ⟨#[]⟩, .bool false] 64 (0, 0)))).up (s.n + 1 + 1 + 1 + 1 + 1 + 1 + 1 + 1)) → (∀ c, c < s.n → s1.m c = s.m c) ∧ s1.wf B ∧ s1.n = (s.n + 1 + 1 + 1 + 1 + 1 + 1 + 1 + 1) ∧ s1.m s.n = some (.raw (.cells #[.pointer (some ⟨q.c, 0, none⟩)] 27 (0, 0))) ∧ s1.m (s.n + 1) = some (.raw (.cells #[.int .i64 t] 3 (0, 0))) ∧ s1.m (s.n + 1 + 1) = some (.raw (.cells #[.func (.func f) #[] #[]] 129 (0, 0))) ∧ s1.m (s.n + 1 + 1 + 1) = some (.raw (.cells #[nv] 65 (0, 0))) ∧ s1.m (s.n + 1 + 1 + 1 + 1) = some (.raw (.cells #[.pointer (some ⟨rr i, 0, none⟩)] 100 (0, 0))) ∧ s1.m (s.n + 1 + 1 + 1 + 1 + 1) = some (.raw (.cells #[.int .i64 (4 + (i : Int))] 3 (0, 0))) ∧ s1.m (s.n + 1 + 1 + 1 + 1 + 1 + 1) = some (.raw (.cells #[.slice (some ⟨s.n + 1 + 1 + 1 + 1 + 1, 0, none⟩) 1 1] 22 (0, 0))) ∧ s1.m (s.n + 1 + 1 + 1 + 1 + 1 + 1 + 1) = some (.raw (.cells #[.int .i64 0, .int .i64 0, .int .i64 0, .string ⟨#[]⟩, .string ⟨#[]⟩, .bool false] 64 (0, 0))) := by
    rintro s1 rfl
    have hw := (set_wf1 (y := (.raw (.cells #[.int .i64 0, .int .i64 0, .int .i64 0, .string ⟨#[]⟩, .string ⟨#[]⟩, .bool false] 64 (0, 0)))) (set_wf1 (y := (.raw (.cells #[.slice (some ⟨s.n + 1 + 1 + 1 + 1 + 1, 0, none⟩) 1 1] 22 (0, 0)))) (set_wf1 (y := (.raw (.cells #[.int .i64 (4 + (i : Int))] 3 (0, 0)))) (set_wf1 (y := (.raw (.cells #[.pointer (some ⟨rr i, 0, none⟩)] 100 (0, 0)))) (set_wf1 (y := (.raw (.cells #[nv] 65 (0, 0)))) (set_wf1 (y := (.raw (.cells #[.func (.func f) #[] #[]] 129 (0, 0)))) (set_wf1 (y := (.raw (.cells #[.int .i64 t] 3 (0, 0)))) (set_wf1 (y := (.raw (.cells #[.pointer (some ⟨q.c, 0, none⟩)] 27 (0, 0)))) hwf))))))))
    simp only [St.up_n] at hw
    exact ⟨fun c hc => by simp -implicitDefEqProofs (disch := first | omega | (simp only [St.set_n, St.up_n, List.length_cons, List.length_nil]; omega)) only [go_sem, Nat.reduceAdd, Nat.reduceMul, Nat.reduceSub, Int.reduceAdd, Int.reduceMul, Int.reduceSub, Int.reduceNeg, Int.reduceToNat], hw, rfl, by simp -implicitDefEqProofs (disch := first | omega | (simp only [St.set_n, St.up_n, List.length_cons, List.length_nil]; omega)) only [go_sem, Nat.reduceAdd, Nat.reduceMul, Nat.reduceSub, Int.reduceAdd, Int.reduceMul, Int.reduceSub, Int.reduceNeg, Int.reduceToNat], by simp -implicitDefEqProofs (disch := first | omega | (simp only [St.set_n, St.up_n, List.length_cons, List.length_nil]; omega)) only [go_sem, Nat.reduceAdd, Nat.reduceMul, Nat.reduceSub, Int.reduceAdd, Int.reduceMul, Int.reduceSub, Int.reduceNeg, Int.reduceToNat], by simp -implicitDefEqProofs (disch := first | omega | (simp only [St.set_n, St.up_n, List.length_cons, List.length_nil]; omega)) only [go_sem, Nat.reduceAdd, Nat.reduceMul, Nat.reduceSub, Int.reduceAdd, Int.reduceMul, Int.reduceSub, Int.reduceNeg, Int.reduceToNat], by simp -implicitDefEqProofs (disch := first | omega | (simp only [St.set_n, St.up_n, List.length_cons, List.length_nil]; omega)) only [go_sem, Nat.reduceAdd, Nat.reduceMul, Nat.reduceSub, Int.reduceAdd, Int.reduceMul, Int.reduceSub, Int.reduceNeg, Int.reduceToNat], by simp -implicitDefEqProofs (disch := first | omega | (simp only [St.set_n, St.up_n, List.length_cons, List.length_nil]; omega)) only [go_sem, Nat.reduceAdd, Nat.reduceMul, Nat.reduceSub, Int.reduceAdd, Int.reduceMul, Int.reduceSub, Int.reduceNeg, Int.reduceToNat], by simp -implicitDefEqProofs (disch := first | omega | (simp only [St.set_n, St.up_n, List.length_cons, List.length_nil]; omega)) only [go_sem, Nat.reduceAdd, Nat.reduceMul, Nat.reduceSub, Int.reduceAdd, Int.reduceMul, Int.reduceSub, Int.reduceNeg, Int.reduceToNat], by simp -implicitDefEqProofs (disch := first | omega | (simp only [St.set_n, St.up_n, List.length_cons, List.length_nil]; omega)) only [go_sem, Nat.reduceAdd, Nat.reduceMul, Nat.reduceSub, Int.reduceAdd, Int.reduceMul, Int.reduceSub, Int.reduceNeg, Int.reduceToNat], by simp -implicitDefEqProofs (disch := first | omega | (simp only [St.set_n, St.up_n, List.length_cons, List.length_nil]; omega)) only [go_sem, Nat.reduceAdd, Nat.reduceMul, Nat.reduceSub, Int.reduceAdd, Int.reduceMul, Int.reduceSub, Int.reduceNeg, Int.reduceToNat]⟩
  obtain ⟨hk, hw2, hn1, p0, p1, p2, p3, p4, p5, p6, p7⟩ := key _ rfl
  generalize (((((((((s.set s.n (.raw (.cells #[.pointer (some ⟨q.c, 0, none⟩)] 27 (0, 0)))).set (s.n + 1) (.raw (.cells #[.int .i64 t] 3 (0, 0)))).set (s.n + 1 + 1) (.raw (.cells #[.func (.func f) #[] #[]] 129 (0, 0)))).set (s.n + 1 + 1 + 1) (.raw (.cells #[nv] 65 (0, 0)))).set (s.n + 1 + 1 + 1 + 1) (.raw (.cells #[.pointer (some ⟨rr i, 0, none⟩)] 100 (0, 0)))).set (s.n + 1 + 1 + 1 + 1 + 1) (.raw (.cells #[.int .i64 (4 + (i : Int))] 3 (0, 0)))).set (s.n + 1 + 1 + 1 + 1 + 1 + 1) (.raw (.cells #[.slice (some ⟨s.n + 1 + 1 + 1 + 1 + 1, 0, none⟩) 1 1] 22 (0, 0)))).set (s.n + 1 + 1 + 1 + 1 + 1 + 1 + 1) (.raw (.cells #[.int .i64 0, .int .i64 0, .int .i64 0, .string ⟨#[]⟩, .string ⟨#[]⟩, .bool false] 64 (0, 0)))).up (s.n + 1 + 1 + 1 + 1 + 1 + 1 + 1 + 1)) = s1 at hk hw2 hn1 p0 p1 p2 p3 p4 p5 p6 p7 ⊢
  refine effD_cut (by kernel_rfl) ?_
  intro jj hjj
  simp -implicitDefEqProofs (disch := first | omega | (simp only [St.set_n, St.up_n, List.length_cons, List.length_nil]; omega)) only [go_sem, Nat.reduceAdd, Nat.reduceMul, Nat.reduceSub, Int.reduceAdd, Int.reduceMul, Int.reduceSub, Int.reduceNeg, Int.reduceToNat]
  have he1 := he.grow hk (by omega) hw2
  have he2 := he1.up hjj
  have hnx : NxOk (cL (B := B) nr rn H) (fun _ => True) t (n + 1 + 1) (fun u => (u, .po i j d :: T)) (.func (.func 79) #[] #[.pointer (some ⟨s.n + 1 + 1, 0, none⟩), .pointer (some ⟨s.n + 1 + 1 + 1 + 1, 0, none⟩), .pointer (some ⟨s.n + 1 + 1 + 1 + 1 + 1 + 1 + 1, 0, none⟩), .pointer (some ⟨s.n, 0, none⟩), .pointer (some ⟨s.n + 1 + 1 + 1 + 1 + 1 + 1, 0, none⟩), .pointer (some ⟨s.n + 1, 0, none⟩), .pointer (some ⟨s.n + 1 + 1 + 1, 0, none⟩)]) (grow h s s1) := w1_ok (h0 := h) (w := ⟨s.n + 1 + 1, s.n + 1 + 1 + 1 + 1, s.n + 1 + 1 + 1 + 1 + 1 + 1 + 1, s.n, s.n + 1 + 1 + 1 + 1 + 1 + 1, s.n + 1, s.n + 1 + 1 + 1, s.n + 1 + 1 + 1 + 1 + 1⟩) hw ht hi hdo hn (fun c y hc => ⟨he.gsub c y hc, by have := he.hlt hc; simp only; omega⟩) ⟨gro (by simp only; omega) p2, gro (by simp only; omega) p4, gro (by simp only; omega) p7, gro (by simp only; omega) p0, gro (by simp only; omega) p6, gro (by simp only; omega) p1, gro (by simp only; omega) p3, gro (by simp only; omega) p5⟩
  refine callF_of (locks_of (L := cL (B := B) nr rn H) (t := t) (n := n + 1 + 1) (al := .lk) (T := .po i j d :: T) (ok := tryO (yLk hw) ((t : Int) + 1)) (φ := tryW (yLk hw) ((t : Int) + 1)) (lv := lkPtr q.b 12) ⟨_, rfl⟩ (lkPtr_pt _ _) [4 + (i : Int)] (grow h s s1) G u (s1.up jj) _ _
    (fun i _ => at_ok (yLk hw) hw.gr i) (fun i _ => try_ok (yLk hw) _ i) (fun i _ u => ⟨rfl, rfl, fun _ => rfl⟩) (OrdV.lit (gro (by omega) p5)) hnx he2 fun v' s' ha hw' => ?_)
  simp -implicitDefEqProofs (disch := first | omega | (simp only [St.set_n, St.up_n, List.length_cons, List.length_nil]; omega)) only [go_sem, Nat.reduceAdd, Nat.reduceMul, Nat.reduceSub, Int.reduceAdd, Int.reduceMul, Int.reduceSub, Int.reduceNeg, Int.reduceToNat]
  intro j3 hj3
  have hn2 : s.n ≤ (s1.up jj).n := by simp only [St.up_n]; omega
  exact hK _ _ ((Aft.since (s1 := s1.up jj) he hk hn2 ha).up hj3) (hw'.up hj3)
/-- 'Poll' and 'Drops'. -/
theorem poll_of (hw : YW q nr rn rr rb H) {u : CU} {i j : Nat} {T : List CA} {nv : Value} (ht : t ≤ 1000) (hi : i < nr) (hn : NxN (cL (B := B) nr rn H) t n (fun _ u => EndOk u.log j) (fun a u => (u.fin j a, T)) nv h) (he : Env (cL (B := B) nr rn H) h G u s)
    (hK : ∀ v' s', Aft (cL (B := B) nr rn H) (Rep (cL (B := B) nr rn H) t (n + 1 + 1 + 1) (.lk (4 + (i : Int)) :: .po i j false :: T)) G u s v' s' → s'.wf B → K v' s') :
    Fn Tryz.prog B 20 #[.pointer (some ⟨q.c, 0, none⟩), .int .i64 t, .int .i64 ((i : Int) + 1), nv] s K := by
  refine Fn.of is20 (by simp) fun hwf => ?_
  simp only [b20, Tryz.f20, Option.getD_some]
  simp -implicitDefEqProofs (disch := first | omega | (simp only [St.set_n, St.up_n, List.length_cons, List.length_nil]; omega)) only [go_sem, Nat.reduceAdd, Nat.reduceMul, Nat.reduceSub, Int.reduceAdd, Int.reduceMul, Int.reduceSub, Int.reduceNeg, Int.reduceToNat]
  refine callF_of (with_of hw ht hi (fun h => poll_ok hw hi) hn he fun v' s' ha hw' => ?_)
  simp -implicitDefEqProofs (disch := first | omega | (simp only [St.set_n, St.up_n, List.length_cons, List.length_nil]; omega)) only [go_sem, Nat.reduceAdd, Nat.reduceMul, Nat.reduceSub, Int.reduceAdd, Int.reduceMul, Int.reduceSub, Int.reduceNeg, Int.reduceToNat]
  exact hK _ _ ha hw'
theorem drops_of (hw : YW q nr rn rr rb H) {u : CU} {i j : Nat} {T : List CA} {nv : Value} (ht : t ≤ 1000) (hi : i < nr) (hn : NxN (cL (B := B) nr rn H) t n (fun _ u => EndOk u.log j) (fun a u => (u.fin j a, T)) nv h) (he : Env (cL (B := B) nr rn H) h G u s)
    (hK : ∀ v' s', Aft (cL (B := B) nr rn H) (Rep (cL (B := B) nr rn H) t (n + 1 + 1 + 1) (.lk (4 + (i : Int)) :: .po i j true :: T)) G u s v' s' → s'.wf B → K v' s') :
    Fn Tryz.prog B 21 #[.pointer (some ⟨q.c, 0, none⟩), .int .i64 t, .int .i64 ((i : Int) + 1), nv] s K := by
  refine Fn.of is21 (by simp) fun hwf => ?_
  simp only [b21, Tryz.f21, Option.getD_some]
  simp -implicitDefEqProofs (disch := first | omega | (simp only [St.set_n, St.up_n, List.length_cons, List.length_nil]; omega)) only [go_sem, Nat.reduceAdd, Nat.reduceMul, Nat.reduceSub, Int.reduceAdd, Int.reduceMul, Int.reduceSub, Int.reduceNeg, Int.reduceToNat]
  refine callF_of (with_of hw ht hi (fun h => drop_ok hw hi) hn he fun v' s' ha hw' => ?_)
  simp -implicitDefEqProofs (disch := first | omega | (simp only [St.set_n, St.up_n, List.length_cons, List.length_nil]; omega)) only [go_sem, Nat.reduceAdd, Nat.reduceMul, Nat.reduceSub, Int.reduceAdd, Int.reduceMul, Int.reduceSub, Int.reduceNeg, Int.reduceToNat]
  exact hK _ _ ha hw'
end
end Go.Proofs.YtdbgeahmhfocaaaGreat

/- Threads that poll: contracts, by walks. -/
namespace Go.Proofs.YtdbgeahmhfocaaaGreat
set_option linter.unusedSimpArgs false
set_option linter.unusedVariables false
set_option maxRecDepth 100000
open Go Go.RowKit
section
variable {B : World} {q : YB} {nr rn : Nat} {rr rb : Nat → Nat} {H : CU → HF} {K : Value → St → Prop} {G : Nat → Prop} {h : HF} {s : St} {t n : Nat}
theorem with_none (hw : YW q nr rn rr rb H) {u : CU} {sub : Int} {j f : Nat} {T : List CA} {nv : Value} (hs : ¬ (1 ≤ sub ∧ sub ≤ nr))
    (hn : NxN (cL (B := B) nr rn H) t n (fun _ u => EndOk u.log j) (fun a u => (u.fin j a, T)) nv h) (he : Env (cL (B := B) nr rn H) h G u s)
    (hK : ∀ v' s', Aft (cL (B := B) nr rn H) (Rep (cL (B := B) nr rn H) t (n + 1) (.an j :: T)) G u s v' s' → s'.wf B → K v' s') :
    Fn Tryz.prog B 55 #[.pointer (some ⟨q.c, 0, none⟩), .int .i64 t, .int .i64 sub, .func (.func f) #[] #[], nv] s K := by
  refine Fn.of is55 (by simp) fun hwf => ?_
  have hB := hwf.1
  simp only [b55, Tryz.f55, Option.getD_some]
  simp -implicitDefEqProofs (disch := first | omega | (simp only [St.set_n, St.up_n, List.length_cons, List.length_nil]; omega)) only [go_sem, Nat.reduceAdd, Nat.reduceMul, Nat.reduceSub, Int.reduceAdd, Int.reduceMul, Int.reduceSub, Int.reduceNeg, Int.reduceToNat, hn.one.1, hn.one.2]
  have hk1 : ∀ c, c < s.n → (((((s.set s.n (.raw (.cells #[.pointer (some ⟨q.c, 0, none⟩)] 27 (0, 0)))).set (s.n + 1) (.raw (.cells #[.int .i64 t] 3 (0, 0)))).set (s.n + 1 + 1) (.raw (.cells #[.func (.func f) #[] #[]] 129 (0, 0)))).set (s.n + 1 + 1 + 1) (.raw (.cells #[nv] 65 (0, 0)))).up (s.n + 1 + 1 + 1 + 1)).m c = s.m c := fun c hc => by simp -implicitDefEqProofs (disch := first | omega | (simp only [St.set_n, St.up_n, List.length_cons, List.length_nil]; omega)) only [go_sem, Nat.reduceAdd, Nat.reduceMul, Nat.reduceSub, Int.reduceAdd, Int.reduceMul, Int.reduceSub, Int.reduceNeg, Int.reduceToNat]
  have hw1 : (((((s.set s.n (.raw (.cells #[.pointer (some ⟨q.c, 0, none⟩)] 27 (0, 0)))).set (s.n + 1) (.raw (.cells #[.int .i64 t] 3 (0, 0)))).set (s.n + 1 + 1) (.raw (.cells #[.func (.func f) #[] #[]] 129 (0, 0)))).set (s.n + 1 + 1 + 1) (.raw (.cells #[nv] 65 (0, 0)))).up (s.n + 1 + 1 + 1 + 1)).wf B := by
    have h1 := set_wf1 (y := .raw (.cells #[nv] 65 (0, 0))) (set_wf1 (y := .raw (.cells #[.func (.func f) #[] #[]] 129 (0, 0))) (set_wf1 (y := .raw (.cells #[.int .i64 t] 3 (0, 0))) (set_wf1 (y := .raw (.cells #[.pointer (some ⟨q.c, 0, none⟩)] 27 (0, 0))) hwf)))
    exact h1
  have he1 := he.grow hk1 (by simp only [St.up_n]; omega) hw1
  have mn : (((((s.set s.n (.raw (.cells #[.pointer (some ⟨q.c, 0, none⟩)] 27 (0, 0)))).set (s.n + 1) (.raw (.cells #[.int .i64 t] 3 (0, 0)))).set (s.n + 1 + 1) (.raw (.cells #[.func (.func f) #[] #[]] 129 (0, 0)))).set (s.n + 1 + 1 + 1) (.raw (.cells #[nv] 65 (0, 0)))).up (s.n + 1 + 1 + 1 + 1)).m (s.n + 1 + 1 + 1) = some (.raw (.cells #[nv] 65 (0, 0))) := by simp -implicitDefEqProofs (disch := first | omega | (simp only [St.set_n, St.up_n, List.length_cons, List.length_nil]; omega)) only [go_sem, Nat.reduceAdd, Nat.reduceMul, Nat.reduceSub, Int.reduceAdd, Int.reduceMul, Int.reduceSub, Int.reduceNeg, Int.reduceToNat]
  have hn0 : s.n + 1 + 1 + 1 + 1 = (((((s.set s.n (.raw (.cells #[.pointer (some ⟨q.c, 0, none⟩)] 27 (0, 0)))).set (s.n + 1) (.raw (.cells #[.int .i64 t] 3 (0, 0)))).set (s.n + 1 + 1) (.raw (.cells #[.func (.func f) #[] #[]] 129 (0, 0)))).set (s.n + 1 + 1 + 1) (.raw (.cells #[nv] 65 (0, 0)))).up (s.n + 1 + 1 + 1 + 1)).n := rfl
  generalize ((((s.set s.n (.raw (.cells #[.pointer (some ⟨q.c, 0, none⟩)] 27 (0, 0)))).set (s.n + 1) (.raw (.cells #[.int .i64 t] 3 (0, 0)))).set (s.n + 1 + 1) (.raw (.cells #[.func (.func f) #[] #[]] 129 (0, 0)))).set (s.n + 1 + 1 + 1) (.raw (.cells #[nv] 65 (0, 0)))).up (s.n + 1 + 1 + 1 + 1) = s1 at hk1 hw1 he1 mn hn0 ⊢
  refine callF_of (ring_of hw he1 ?_)
  rw [if_neg hs]
  have mnn := (hw1.2 _ _ mn).2
  simp -implicitDefEqProofs (disch := first | omega | (simp only [St.set_n, St.up_n, List.length_cons, List.length_nil]; omega)) only [go_sem, Nat.reduceAdd, Nat.reduceMul, Nat.reduceSub, Int.reduceAdd, Int.reduceMul, Int.reduceSub, Int.reduceNeg, Int.reduceToNat, mn]
  have hk2 : ∀ c, c < s1.n → ((s1.set s1.n (.raw (.cells #[.pointer none] 100 (0, 0)))).up (s1.n + 1)).m c = s1.m c := fun c hc => by simp -implicitDefEqProofs (disch := first | omega | (simp only [St.set_n, St.up_n, List.length_cons, List.length_nil]; omega)) only [go_sem, Nat.reduceAdd, Nat.reduceMul, Nat.reduceSub, Int.reduceAdd, Int.reduceMul, Int.reduceSub, Int.reduceNeg, Int.reduceToNat]
  have he2 := he1.grow hk2 (by simp only [St.up_n]; omega) (set_wf1 (y := .raw (.cells #[.pointer none] 100 (0, 0))) hw1)
  have e0 : (#[.int .i64 4, .int .i64 0, .int .i64 0, .string ⟨#[]⟩, .string ⟨#[]⟩, .bool false] : Array Value) = (fAn (anE 4)).toArray := rfl
  rw [e0]
  refine callF_of (answer_of (L := cL (B := B) nr rn H) (t := t) (n := n) (x := .an j) (r := T) (a := anE 4) ((hn.more he.gsub).more he1.gsub) (fun u hu => hu) (fun u hu => ⟨rfl, rfl, rfl⟩) he2 fun v' s' ha hw' => ?_)
  simp -implicitDefEqProofs (disch := first | omega | (simp only [St.set_n, St.up_n, List.length_cons, List.length_nil]; omega)) only [go_sem, Nat.reduceAdd, Nat.reduceMul, Nat.reduceSub, Int.reduceAdd, Int.reduceMul, Int.reduceSub, Int.reduceNeg, Int.reduceToNat]
  exact hK _ _ (Aft.since he (fun c hc => by rw [hk2 c (by omega), hk1 c hc]) (by simp only [St.up_n]; omega) ha) hw'
/-- Operations that a thread can read. -/
structure OpsV (L : Lg B) (h : HF) (v : Value) (ops : List COp) : Prop where
  is : ∃ A cap, v = .slice A ops.length cap ∧ ops.length ≤ cap ∧ (ops ≠ [] → ∃ b o cs ty, A = some ⟨b, o, none⟩ ∧ (∀ G u s, Env L h G u s → s.m b = some (.raw (.cells cs ty (0, 0)))) ∧ ∀ j op, ops[j]? = some op → ∀ k v, (fOp op)[k]? = some v → cs[o + j * 5 + k]? = some v)
theorem OpsV.more {L : Lg B} {h2 : HF} {v : Value} {ops : List COp} (ho : OpsV L h v ops) (hs : ∀ c y, h c = some y → h2 c = some y) : OpsV L h2 v ops := by
  obtain ⟨A, cap, rfl, hc, h1⟩ := ho.is
  exact ⟨A, cap, rfl, hc, fun hne => let ⟨b, o, cs, ty, e, hb, hx⟩ := h1 hne; ⟨b, o, cs, ty, e, fun G u s he => hb G u s (he.less hs), hx⟩⟩
theorem OpsV.tail {L : Lg B} {A : Option Addr} {cap : Nat} {op : COp} {ops : List COp} (ho : OpsV L h (.slice A (ops.length + 1) cap) (op :: ops)) : OpsV L h (.slice (slA A cap 1 5) ops.length (cap - 1)) ops := by
  obtain ⟨A', cap', e, hc, h1⟩ := ho.is
  cases e
  obtain ⟨b, o, cs, ty, rfl, hb, hx⟩ := h1 (by simp)
  simp only [List.length_cons] at hc
  refine ⟨_, _, rfl, by omega, fun hne => ?_⟩
  have : ops.length ≠ 0 := fun e => hne (List.length_eq_zero_iff.1 e)
  rw [slA_mk (by omega)]
  refine ⟨b, o + 1 * 5, cs, ty, rfl, hb, fun j x hj k v hv => ?_⟩
  have := hx (j + 1) x (by rw [List.getElem?_cons_succ]; exact hj) k v hv
  rw [← this]; congr 1; omega
theorem OpsV.head {L : Lg B} {A : Option Addr} {cap : Nat} {op : COp} {ops : List COp} (ho : OpsV L h (.slice A (ops.length + 1) cap) (op :: ops)) : ∃ b o cs ty, A = some ⟨b, o, none⟩ ∧ (∀ G u s, Env L h G u s → s.m b = some (.raw (.cells cs ty (0, 0)))) ∧
    cs[o]? = some (.int .i64 op.kind) ∧ cs[o + 1]? = some (.int .i64 op.sub) ∧ cs[o + 2]? = some (.string op.text) ∧ cs[o + 3]? = some (.string op.pay) ∧ cs[o + 4]? = some (.bool op.keep) := by
  obtain ⟨A', cap', e, hc, h1⟩ := ho.is
  cases e
  obtain ⟨b, o, cs, ty, rfl, hb, hx⟩ := h1 (by simp)
  have h0 := hx 0 op rfl
  simp only [Nat.zero_mul, Nat.add_zero] at h0
  exact ⟨b, o, cs, ty, rfl, hb, h0 0 _ rfl, h0 1 _ rfl, h0 2 _ rfl, h0 3 _ rfl, h0 4 _ rfl⟩
def ThrOk (B : World) (q : YB) (nr rn : Nat) (H : CU → HF) (t : Nat) (ops : List COp) : Prop := ∀ (h : HF) (G : Nat → Prop) (u : CU) (s : St) (ov : Value) (K : Value → St → Prop), OpsV (cL (B := B) nr rn H) h ov ops → Env (cL (B := B) nr rn H) h G u s →
  (∀ v' s', Aft (cL (B := B) nr rn H) (Rep (cL (B := B) nr rn H) t (4 * ops.length) (ops.map .bg)) G u s v' s' → s'.wf B → K v' s') →
  Fn Tryz.prog B 12 #[.pointer (some ⟨q.c, 0, none⟩), .int .i64 t, ov, .pointer (some ⟨q.lp, 0, none⟩)] s K
structure TB where
  bc : Nat
  bm : Nat
  bo : Nat
  bl : Nat
  bi : Nat
  bn : Nat
structure TH (q : YB) (t : Nat) (ov : Value) (w : TB) (h : HF) : Prop where
  c : h w.bc = some (.raw (.cells #[.pointer (some ⟨q.c, 0, none⟩)] 27 (0, 0)))
  m : h w.bm = some (.raw (.cells #[.int .i64 t] 3 (0, 0)))
  o : h w.bo = some (.raw (.cells #[ov] 46 (0, 0)))
  l : h w.bl = some (.raw (.cells #[.pointer (some ⟨q.lp, 0, none⟩)] 43 (0, 0)))
def tnV (w : TB) : Value := .func (.func 33) #[] #[.pointer (some ⟨w.bl, 0, none⟩), .pointer (some ⟨w.bi, 0, none⟩), .pointer (some ⟨w.bc, 0, none⟩), .pointer (some ⟨w.bm, 0, none⟩), .pointer (some ⟨w.bo, 0, none⟩)]
theorem next_ok (hw : YW q nr rn rr rb H) {j : Nat} {op : COp} {ops : List COp} {A : Option Addr} {cap : Nat} {w : TB} (ih : ThrOk B q nr rn H t ops) (hh : TH q t (.slice A (ops.length + 1) cap) w h) (ho : OpsV (cL (B := B) nr rn H) h (.slice A (ops.length + 1) cap) (op :: ops)) (hi : h w.bi = some (.raw (.cells #[.int .i64 ((j : Int) + 1)] 3 (0, 0)))) :
    NxN (cL (B := B) nr rn H) t (4 * ops.length) (fun _ u => EndOk u.log j) (fun a u => (u.fin j a, ops.map .bg)) (tnV w) h := by
  refine ⟨_, _, _, rfl, fun a G (u : CU) s he hp => ?_⟩
  refine Fn.of is33 (by simp) fun hwf => ?_
  simp only [b33, Tryz.f33, Option.getD_some]
  have m1 := he.sub _ _ hh.l
  have m2 := he.sub _ _ hi
  have m1n := (hwf.2 _ _ m1).2
  have m2n := (hwf.2 _ _ m2).2
  simp -implicitDefEqProofs (disch := first | omega | (simp only [St.set_n, St.up_n, List.length_cons, List.length_nil]; omega)) only [go_sem, Nat.reduceAdd, Nat.reduceMul, Nat.reduceSub, Int.reduceAdd, Int.reduceMul, Int.reduceSub, Int.reduceNeg, Int.reduceToNat, fAn, m1, m2]
  have hk : ∀ c, c < s.n → ((s.set s.n (.raw (.cells (fAn a).toArray 64 (0, 0)))).up (s.n + 1)).m c = s.m c := fun c hc => by simp -implicitDefEqProofs (disch := first | omega | (simp only [St.set_n, St.up_n, List.length_cons, List.length_nil]; omega)) only [go_sem, Nat.reduceAdd, Nat.reduceMul, Nat.reduceSub, Int.reduceAdd, Int.reduceMul, Int.reduceSub, Int.reduceNeg, Int.reduceToNat]
  have hn1 : s.n ≤ ((s.set s.n (.raw (.cells (fAn a).toArray 64 (0, 0)))).up (s.n + 1)).n := by simp only [St.up_n]; omega
  have hw1 := set_wf1 (y := .raw (.cells (fAn a).toArray 64 (0, 0))) hwf
  have he1 : Env (cL (B := B) nr rn H) h G u ((s.set s.n (.raw (.cells (fAn a).toArray 64 (0, 0)))).up (s.n + 1)) := (he.grow hk hn1 hw1).less he.gsub
  refine callF_wf ((end_ok hw j a G u _ he1 hp).mono fun r s' ⟨hr, ha⟩ hw' => ?_)
  obtain ⟨h', rfl, he'⟩ := ha.env he1 (fun c hc => .inl hc) hw'
  have o1 := he'.sub _ _ hh.c
  have o2 := he'.sub _ _ hh.m
  have o3 := he'.sub _ _ hh.o
  have o4 := he'.sub _ _ hh.l
  have e1 : (1 : Int) ≤ (ops.length : Int) + 1 := by omega
  simp -implicitDefEqProofs (disch := first | omega | (simp only [St.set_n, St.up_n, List.length_cons, List.length_nil]; omega)) only [go_sem, Nat.reduceAdd, Nat.reduceMul, Nat.reduceSub, Int.reduceAdd, Int.reduceMul, Int.reduceSub, Int.reduceNeg, Int.reduceToNat, o1, o2, o3, o4, e1]
  refine effD_cut (by kernel_rfl) ?_
  intro jj hjj
  simp -implicitDefEqProofs (disch := first | omega | (simp only [St.set_n, St.up_n, List.length_cons, List.length_nil]; omega)) only [go_sem, Nat.reduceAdd, Nat.reduceMul, Nat.reduceSub, Int.reduceAdd, Int.reduceMul, Int.reduceSub, Int.reduceNeg, Int.reduceToNat]
  refine callF_of (ih h' G (u.fin j a) (s'.up jj) _ _ ho.tail (he'.up hjj) fun v' s2 ha2 hw2 => ?_)
  simp -implicitDefEqProofs (disch := first | omega | (simp only [St.set_n, St.up_n, List.length_cons, List.length_nil]; omega)) only [go_sem, Nat.reduceAdd, Nat.reduceMul, Nat.reduceSub, Int.reduceAdd, Int.reduceMul, Int.reduceSub, Int.reduceNeg, Int.reduceToNat]
  have hn2 : s'.n ≤ (s'.up jj).n := by simp only [St.up_n]; omega
  have hfin := Aft.since he hk hn1 (ha.trans (Aft.since (s1 := s'.up jj) he' (fun c _ => rfl) hn2 ha2))
  first | exact hfin | (intro j3 hj3; exact hfin.up hj3)
theorem beg_ok (hw : YW q nr rn rr rb H) {op : COp} {ops : List COp} {A : Option Addr} {cap : Nat} {w : TB} {i0 : Int} (hh : TH q t (.slice A (ops.length + 1) cap) w h) (ho : OpsV (cL (B := B) nr rn H) h (.slice A (ops.length + 1) cap) (op :: ops)) (hi : h w.bi = some (.raw (.cells #[.int .i64 i0] 3 (0, 0)))) :
    FxOk (cL (B := B) nr rn H) (fun u => preC rn t u (.bg op)) (fun u => { u with log := u.log.begin t op }) (fun u => putH h w.bi (.raw (.cells #[.int .i64 ((u.log.l.length : Int) + 1)] 3 (0, 0)))) (.func (.func 36) #[] #[.pointer (some ⟨w.bl, 0, none⟩), .pointer (some ⟨w.bm, 0, none⟩), .pointer (some ⟨w.bo, 0, none⟩), .pointer (some ⟨w.bi, 0, none⟩)]) h := by
  refine .inr ⟨_, _, _, rfl, fun G (u : CU) s he hp => ?_⟩
  obtain ⟨b, o, cs, ty, rfl, hb, c0, c1, c2, c3, c4⟩ := ho.head
  have mb := hb _ _ _ he
  have o2 := he.sub _ _ hh.m
  have o3 := he.sub _ _ hh.o
  have o4 := he.sub _ _ hh.l
  have e1 : (0 : Int) < (ops.length : Int) + 1 := by omega
  refine Fn.of is36 (by simp) fun hwf => ?_
  simp only [b36, Tryz.f36, Option.getD_some]
  simp -implicitDefEqProofs (disch := first | omega | (simp only [St.set_n, St.up_n, List.length_cons, List.length_nil]; omega)) only [go_sem, Nat.reduceAdd, Nat.reduceMul, Nat.reduceSub, Int.reduceAdd, Int.reduceMul, Int.reduceSub, Int.reduceNeg, Int.reduceToNat, o2, o3, o4, mb, c0, c1, c2, c3, c4, e1]
  refine effD_cut (by kernel_rfl) ?_
  intro jj hjj
  simp -implicitDefEqProofs (disch := first | omega | (simp only [St.set_n, St.up_n, List.length_cons, List.length_nil]; omega)) only [go_sem, Nat.reduceAdd, Nat.reduceMul, Nat.reduceSub, Int.reduceAdd, Int.reduceMul, Int.reduceSub, Int.reduceNeg, Int.reduceToNat]
  refine callF_wf ((begin_ok hw t op G u _ (he.up hjj) hp).mono fun r s' ⟨hr, ha⟩ hw' => ?_)
  subst hr
  obtain ⟨h', rfl, he'⟩ := ha.env (he.up hjj) (fun c hc => .inl hc) hw'
  have o5 := he'.sub _ _ hi
  simp -implicitDefEqProofs (disch := first | omega | (simp only [St.set_n, St.up_n, List.length_cons, List.length_nil]; omega)) only [go_sem, Nat.reduceAdd, Nat.reduceMul, Nat.reduceSub, Int.reduceAdd, Int.reduceMul, Int.reduceSub, Int.reduceNeg, Int.reduceToNat, o5]
  refine effD_tail (by kernel_rfl) ?_
  simp -implicitDefEqProofs (disch := first | omega | (simp only [St.set_n, St.up_n, List.length_cons, List.length_nil]; omega)) only [go_sem, Nat.reduceAdd, Nat.reduceMul, Nat.reduceSub, Int.reduceAdd, Int.reduceMul, Int.reduceSub, Int.reduceNeg, Int.reduceToNat, o5]
  have hn2 : s.n ≤ (s.up jj).n := by simp only [St.up_n]; omega
  have hfin := Aft.since (s1 := s.up jj) he (fun c _ => rfl) hn2 (ha.put (b := w.bi) (by rw [hi]; simp) (.raw (.cells #[.int .i64 ((u.log.l.length : Int) + 1)] 3 (0, 0))))
  first | exact hfin | (intro j3 hj3; exact hfin.up hj3)
end
end Go.Proofs.YtdbgeahmhfocaaaGreat

/- Threads that poll, whole: contracts, by walks. -/
namespace Go.Proofs.YtdbgeahmhfocaaaGreat
set_option linter.unusedSimpArgs false
set_option linter.unusedVariables false
set_option maxRecDepth 100000
open Go Go.RowKit
section
variable {B : World} {q : YB} {nr rn : Nat} {rr rb : Nat → Nat} {H : CU → HF} {K : Value → St → Prop} {G : Nat → Prop} {h : HF} {s : St} {t n : Nat}
theorem poll_any (hw : YW q nr rn rr rb H) {u : CU} {sub : Int} {j : Nat} {T : List CA} {nv : Value} (ht : t ≤ 1000) (hn : NxN (cL (B := B) nr rn H) t n (fun _ u => EndOk u.log j) (fun a u => (u.fin j a, T)) nv h) (he : Env (cL (B := B) nr rn H) h G u s)
    (hK : ∀ v' s', Aft (cL (B := B) nr rn H) (Rep (cL (B := B) nr rn H) t (n + 1 + 1 + 1) ((if 1 ≤ sub ∧ sub ≤ nr then [.lk (3 + sub), .po (sub - 1).toNat j false] else [.an j]) ++ T)) G u s v' s' → s'.wf B → K v' s') :
    Fn Tryz.prog B 20 #[.pointer (some ⟨q.c, 0, none⟩), .int .i64 t, .int .i64 sub, nv] s K := by
  by_cases hs : 1 ≤ sub ∧ sub ≤ nr
  · rw [if_pos hs] at hK
    obtain ⟨i, rfl⟩ : ∃ i : Nat, sub = (i : Int) + 1 := ⟨(sub - 1).toNat, by omega⟩
    have e1 : ((i : Int) + 1 - 1).toNat = i := by omega
    have e2 : (3 : Int) + ((i : Int) + 1) = 4 + i := by omega
    rw [e1, e2] at hK
    exact poll_of hw ht (by omega) hn he hK
  · rw [if_neg hs] at hK
    refine Fn.of is20 (by simp) fun hwf => ?_
    simp only [b20, Tryz.f20, Option.getD_some]
    simp -implicitDefEqProofs (disch := first | omega | (simp only [St.set_n, St.up_n, List.length_cons, List.length_nil]; omega)) only [go_sem, Nat.reduceAdd, Nat.reduceMul, Nat.reduceSub, Int.reduceAdd, Int.reduceMul, Int.reduceSub, Int.reduceNeg, Int.reduceToNat]
    refine callF_of (with_none hw hs hn he fun v' s' ha hw' => ?_)
    simp -implicitDefEqProofs (disch := first | omega | (simp only [St.set_n, St.up_n, List.length_cons, List.length_nil]; omega)) only [go_sem, Nat.reduceAdd, Nat.reduceMul, Nat.reduceSub, Int.reduceAdd, Int.reduceMul, Int.reduceSub, Int.reduceNeg, Int.reduceToNat]
    exact hK _ _ (ha.mono fun h hr => hr.up (by omega)) hw'
theorem drops_any (hw : YW q nr rn rr rb H) {u : CU} {sub : Int} {j : Nat} {T : List CA} {nv : Value} (ht : t ≤ 1000) (hn : NxN (cL (B := B) nr rn H) t n (fun _ u => EndOk u.log j) (fun a u => (u.fin j a, T)) nv h) (he : Env (cL (B := B) nr rn H) h G u s)
    (hK : ∀ v' s', Aft (cL (B := B) nr rn H) (Rep (cL (B := B) nr rn H) t (n + 1 + 1 + 1) ((if 1 ≤ sub ∧ sub ≤ nr then [.lk (3 + sub), .po (sub - 1).toNat j true] else [.an j]) ++ T)) G u s v' s' → s'.wf B → K v' s') :
    Fn Tryz.prog B 21 #[.pointer (some ⟨q.c, 0, none⟩), .int .i64 t, .int .i64 sub, nv] s K := by
  by_cases hs : 1 ≤ sub ∧ sub ≤ nr
  · rw [if_pos hs] at hK
    obtain ⟨i, rfl⟩ : ∃ i : Nat, sub = (i : Int) + 1 := ⟨(sub - 1).toNat, by omega⟩
    have e1 : ((i : Int) + 1 - 1).toNat = i := by omega
    have e2 : (3 : Int) + ((i : Int) + 1) = 4 + i := by omega
    rw [e1, e2] at hK
    exact drops_of hw ht (by omega) hn he hK
  · rw [if_neg hs] at hK
    refine Fn.of is21 (by simp) fun hwf => ?_
    simp only [b21, Tryz.f21, Option.getD_some]
    simp -implicitDefEqProofs (disch := first | omega | (simp only [St.set_n, St.up_n, List.length_cons, List.length_nil]; omega)) only [go_sem, Nat.reduceAdd, Nat.reduceMul, Nat.reduceSub, Int.reduceAdd, Int.reduceMul, Int.reduceSub, Int.reduceNeg, Int.reduceToNat]
    refine callF_of (with_none hw hs hn he fun v' s' ha hw' => ?_)
    simp -implicitDefEqProofs (disch := first | omega | (simp only [St.set_n, St.up_n, List.length_cons, List.length_nil]; omega)) only [go_sem, Nat.reduceAdd, Nat.reduceMul, Nat.reduceSub, Int.reduceAdd, Int.reduceMul, Int.reduceSub, Int.reduceNeg, Int.reduceToNat]
    exact hK _ _ (ha.mono fun h hr => hr.up (by omega)) hw'
theorem go_ok (hw : YW q nr rn rr rb H) (ht : t ≤ 1000) {j : Nat} {op : COp} {ops : List COp} {A : Option Addr} {cap : Nat} {w : TB} (ih : ThrOk B q nr rn H t ops) (hh : TH q t (.slice A (ops.length + 1) cap) w h) (ho : OpsV (cL (B := B) nr rn H) h (.slice A (ops.length + 1) cap) (op :: ops)) (hi : h w.bi = some (.raw (.cells #[.int .i64 ((j : Int) + 1)] 3 (0, 0))))
    (hx : h w.bn = some (.raw (.cells #[tnV w] 65 (0, 0)))) {Q : CU → Prop} :
    NxOk (cL (B := B) nr rn H) Q t (4 * ops.length + 3) (fun u => (u, aft nr op j ++ ops.map .bg)) (.func (.func 38) #[] #[.pointer (some ⟨w.bo, 0, none⟩), .pointer (some ⟨w.bc, 0, none⟩), .pointer (some ⟨w.bm, 0, none⟩), .pointer (some ⟨w.bn, 0, none⟩)]) h := by
  refine .inr ⟨_, _, _, rfl, fun G (u : CU) s he _ => ?_⟩
  have hnx := next_ok hw ih hh ho hi
  obtain ⟨b, o, cs, ty, rfl, hb, c0, c1, c2, c3, c4⟩ := ho.head
  have mb := hb _ _ _ he
  have o1 := he.sub _ _ hh.c
  have o2 := he.sub _ _ hh.m
  have o3 := he.sub _ _ hh.o
  have o4 := he.sub _ _ hx
  have e1 : (0 : Int) < (ops.length : Int) + 1 := by omega
  refine Fn.of is38 (by simp) fun hwf => ?_
  simp only [b38, Tryz.f38, Option.getD_some]
  by_cases hk : op.kind = 5
  · have hk' : (op.kind == 5) = true := by rw [hk]; rfl
    rw [hk] at c0
    simp -implicitDefEqProofs (disch := first | omega | (simp only [St.set_n, St.up_n, List.length_cons, List.length_nil]; omega)) only [go_sem, Nat.reduceAdd, Nat.reduceMul, Nat.reduceSub, Int.reduceAdd, Int.reduceMul, Int.reduceSub, Int.reduceNeg, Int.reduceToNat, o1, o2, o3, o4, mb, c0, c1, e1]
    refine effD_cut (by kernel_rfl) ?_
    intro jj hjj
    simp -implicitDefEqProofs (disch := first | omega | (simp only [St.set_n, St.up_n, List.length_cons, List.length_nil]; omega)) only [go_sem, Nat.reduceAdd, Nat.reduceMul, Nat.reduceSub, Int.reduceAdd, Int.reduceMul, Int.reduceSub, Int.reduceNeg, Int.reduceToNat]
    refine callF_of (drops_any hw ht hnx (he.up hjj) fun v' s' ha hw' => ?_)
    simp -implicitDefEqProofs (disch := first | omega | (simp only [St.set_n, St.up_n, List.length_cons, List.length_nil]; omega)) only [go_sem, Nat.reduceAdd, Nat.reduceMul, Nat.reduceSub, Int.reduceAdd, Int.reduceMul, Int.reduceSub, Int.reduceNeg, Int.reduceToNat]
    have hn2 : s.n ≤ (s.up jj).n := by simp only [St.up_n]; omega
    have hfin := Aft.since (s1 := s.up jj) he (fun c _ => rfl) hn2 ha
    unfold aft
    rw [hk']
    first | exact hfin | (intro j3 hj3; exact hfin.up hj3)
  · have hk' : (op.kind == 5) = false := by simpa using hk
    simp -implicitDefEqProofs (disch := first | omega | (simp only [St.set_n, St.up_n, List.length_cons, List.length_nil]; omega)) only [go_sem, Nat.reduceAdd, Nat.reduceMul, Nat.reduceSub, Int.reduceAdd, Int.reduceMul, Int.reduceSub, Int.reduceNeg, Int.reduceToNat, o1, o2, o3, o4, mb, c0, c1, e1, hk]
    refine effD_cut (by kernel_rfl) ?_
    intro jj hjj
    simp -implicitDefEqProofs (disch := first | omega | (simp only [St.set_n, St.up_n, List.length_cons, List.length_nil]; omega)) only [go_sem, Nat.reduceAdd, Nat.reduceMul, Nat.reduceSub, Int.reduceAdd, Int.reduceMul, Int.reduceSub, Int.reduceNeg, Int.reduceToNat]
    refine callF_of (poll_any hw ht hnx (he.up hjj) fun v' s' ha hw' => ?_)
    simp -implicitDefEqProofs (disch := first | omega | (simp only [St.set_n, St.up_n, List.length_cons, List.length_nil]; omega)) only [go_sem, Nat.reduceAdd, Nat.reduceMul, Nat.reduceSub, Int.reduceAdd, Int.reduceMul, Int.reduceSub, Int.reduceNeg, Int.reduceToNat]
    have hn2 : s.n ≤ (s.up jj).n := by simp only [St.up_n]; omega
    have hfin := Aft.since (s1 := s.up jj) he (fun c _ => rfl) hn2 ha
    unfold aft
    rw [hk']
    first | exact hfin | (intro j3 hj3; exact hfin.up hj3)
theorem thread_nil : ThrOk B q nr rn H t [] := by
  intro h G u s ov K ho he hK
  obtain ⟨A, cap, rfl, hc, _⟩ := ho.is
  refine Fn.of is12 (by simp) fun hwf => ?_
  have hB := hwf.1
  simp only [b12, Tryz.f12, Option.getD_some]
  simp -implicitDefEqProofs (disch := first | omega | (simp only [St.set_n, St.up_n, List.length_cons, List.length_nil]; omega)) only [go_sem, Nat.reduceAdd, Nat.reduceMul, Nat.reduceSub, Int.reduceAdd, Int.reduceMul, Int.reduceSub, Int.reduceNeg, Int.reduceToNat]
  have key : ∀ s1, s1 = (((((s.set s.n (.raw (.cells #[.pointer (some ⟨q.c, 0, none⟩)] 27 (0, 0)))).set (s.n + 1) (.raw (.cells #[.int .i64 t] 3 (0, 0)))).set (s.n + 1 + 1) (.raw (.cells #[.slice A 0 cap] 46 (0, 0)))).set (s.n + 1 + 1 + 1) (.raw (.cells #[.pointer (some ⟨q.lp, 0, none⟩)] 43 (0, 0)))).up (s.n + 1 + 1 + 1 + 1)) → (∀ c, c < s.n → s1.m c = s.m c) ∧ s1.wf B ∧ s.n ≤ s1.n := by
    rintro s1 rfl
    exact ⟨fun c hc => by simp -implicitDefEqProofs (disch := first | omega | (simp only [St.set_n, St.up_n, List.length_cons, List.length_nil]; omega)) only [go_sem, Nat.reduceAdd, Nat.reduceMul, Nat.reduceSub, Int.reduceAdd, Int.reduceMul, Int.reduceSub, Int.reduceNeg, Int.reduceToNat], set_wf1 (y := .raw (.cells #[.pointer (some ⟨q.lp, 0, none⟩)] 43 (0, 0))) (set_wf1 (y := .raw (.cells #[.slice A 0 cap] 46 (0, 0))) (set_wf1 (y := .raw (.cells #[.int .i64 t] 3 (0, 0))) (set_wf1 (y := .raw (.cells #[.pointer (some ⟨q.c, 0, none⟩)] 27 (0, 0))) hwf))), by simp only [St.up_n]; omega⟩
  obtain ⟨hk, hw1, hn1⟩ := key _ rfl
  exact hK _ _ (Aft.since he hk hn1 ((he.grow hk hn1 hw1).done (rep_nil _ _ _))) hw1
def tb (n : Nat) : TB := ⟨n, n + 1, n + 1 + 1, n + 1 + 1 + 1, n + 1 + 1 + 1 + 1, n + 1 + 1 + 1 + 1 + 1⟩
theorem thread_cons (hw : YW q nr rn rr rb H) (ht : t ≤ 1000) {op : COp} {ops : List COp} (ih : ThrOk B q nr rn H t ops) : ThrOk B q nr rn H t (op :: ops) := by
  intro h G u s ov K ho he hK
  obtain ⟨A, cap, rfl, hc, _⟩ := ho.is
  simp only [List.length_cons] at ho hc
  refine Fn.of is12 (by simp) fun hwf => ?_
  have hB := hwf.1
  have e1 : ¬ ((ops.length : Int) + 1 = 0) := by omega
  simp only [b12, Tryz.f12, Option.getD_some]
  simp -implicitDefEqProofs (disch := first | omega | (simp only [St.set_n, St.up_n, List.length_cons, List.length_nil]; omega)) only [go_sem, Nat.reduceAdd, Nat.reduceMul, Nat.reduceSub, Int.reduceAdd, Int.reduceMul, Int.reduceSub, Int.reduceNeg, Int.reduceToNat, e1, List.length_cons]
  have key : ∀ s1, s1 = (((((((s.set s.n (.raw (.cells #[.pointer (some ⟨q.c, 0, none⟩)] 27 (0, 0)))).set (s.n + 1) (.raw (.cells #[.int .i64 t] 3 (0, 0)))).set (s.n + 1 + 1) (.raw (.cells #[.slice A (ops.length + 1) cap] 46 (0, 0)))).set (s.n + 1 + 1 + 1) (.raw (.cells #[.pointer (some ⟨q.lp, 0, none⟩)] 43 (0, 0)))).set (s.n + 1 + 1 + 1 + 1) (.raw (.cells #[.int .i64 0] 3 (0, 0)))).set (s.n + 1 + 1 + 1 + 1 + 1) (.raw (.cells #[.func (.func 33) #[] #[.pointer (some ⟨s.n + 1 + 1 + 1, 0, none⟩), .pointer (some ⟨s.n + 1 + 1 + 1 + 1, 0, none⟩), .pointer (some ⟨s.n, 0, none⟩), .pointer (some ⟨s.n + 1, 0, none⟩), .pointer (some ⟨s.n + 1 + 1, 0, none⟩)]] 65 (0, 0)))).up (s.n + 1 + 1 + 1 + 1 + 1 + 1)) → (∀ c, c < s.n → s1.m c = s.m c) ∧ s1.wf B ∧ s.n ≤ s1.n ∧ s1.n = s.n + 1 + 1 + 1 + 1 + 1 + 1 ∧ s1.m s.n = some (.raw (.cells #[.pointer (some ⟨q.c, 0, none⟩)] 27 (0, 0))) ∧ s1.m (s.n + 1) = some (.raw (.cells #[.int .i64 t] 3 (0, 0))) ∧ s1.m (s.n + 1 + 1) = some (.raw (.cells #[.slice A (ops.length + 1) cap] 46 (0, 0))) ∧
      s1.m (s.n + 1 + 1 + 1) = some (.raw (.cells #[.pointer (some ⟨q.lp, 0, none⟩)] 43 (0, 0))) ∧ s1.m (s.n + 1 + 1 + 1 + 1) = some (.raw (.cells #[.int .i64 0] 3 (0, 0))) ∧ s1.m (s.n + 1 + 1 + 1 + 1 + 1) = some (.raw (.cells #[tnV (tb s.n)] 65 (0, 0))) := by
    rintro s1 rfl
    exact ⟨fun c hc => by simp -implicitDefEqProofs (disch := first | omega | (simp only [St.set_n, St.up_n, List.length_cons, List.length_nil]; omega)) only [go_sem, Nat.reduceAdd, Nat.reduceMul, Nat.reduceSub, Int.reduceAdd, Int.reduceMul, Int.reduceSub, Int.reduceNeg, Int.reduceToNat], set_wf1 (y := .raw (.cells #[.func (.func 33) #[] #[.pointer (some ⟨s.n + 1 + 1 + 1, 0, none⟩), .pointer (some ⟨s.n + 1 + 1 + 1 + 1, 0, none⟩), .pointer (some ⟨s.n, 0, none⟩), .pointer (some ⟨s.n + 1, 0, none⟩), .pointer (some ⟨s.n + 1 + 1, 0, none⟩)]] 65 (0, 0))) (set_wf1 (y := .raw (.cells #[.int .i64 0] 3 (0, 0))) (set_wf1 (y := .raw (.cells #[.pointer (some ⟨q.lp, 0, none⟩)] 43 (0, 0))) (set_wf1 (y := .raw (.cells #[.slice A (ops.length + 1) cap] 46 (0, 0))) (set_wf1 (y := .raw (.cells #[.int .i64 t] 3 (0, 0))) (set_wf1 (y := .raw (.cells #[.pointer (some ⟨q.c, 0, none⟩)] 27 (0, 0))) hwf))))), by simp only [St.up_n]; omega, rfl, by simp -implicitDefEqProofs (disch := first | omega | (simp only [St.set_n, St.up_n, List.length_cons, List.length_nil]; omega)) only [go_sem, Nat.reduceAdd, Nat.reduceMul, Nat.reduceSub, Int.reduceAdd, Int.reduceMul, Int.reduceSub, Int.reduceNeg, Int.reduceToNat], by simp -implicitDefEqProofs (disch := first | omega | (simp only [St.set_n, St.up_n, List.length_cons, List.length_nil]; omega)) only [go_sem, Nat.reduceAdd, Nat.reduceMul, Nat.reduceSub, Int.reduceAdd, Int.reduceMul, Int.reduceSub, Int.reduceNeg, Int.reduceToNat], by simp -implicitDefEqProofs (disch := first | omega | (simp only [St.set_n, St.up_n, List.length_cons, List.length_nil]; omega)) only [go_sem, Nat.reduceAdd, Nat.reduceMul, Nat.reduceSub, Int.reduceAdd, Int.reduceMul, Int.reduceSub, Int.reduceNeg, Int.reduceToNat], by simp -implicitDefEqProofs (disch := first | omega | (simp only [St.set_n, St.up_n, List.length_cons, List.length_nil]; omega)) only [go_sem, Nat.reduceAdd, Nat.reduceMul, Nat.reduceSub, Int.reduceAdd, Int.reduceMul, Int.reduceSub, Int.reduceNeg, Int.reduceToNat], by simp -implicitDefEqProofs (disch := first | omega | (simp only [St.set_n, St.up_n, List.length_cons, List.length_nil]; omega)) only [go_sem, Nat.reduceAdd, Nat.reduceMul, Nat.reduceSub, Int.reduceAdd, Int.reduceMul, Int.reduceSub, Int.reduceNeg, Int.reduceToNat], by simp -implicitDefEqProofs (disch := first | omega | (simp only [St.set_n, St.up_n, List.length_cons, List.length_nil]; omega)) only [go_sem, Nat.reduceAdd, Nat.reduceMul, Nat.reduceSub, Int.reduceAdd, Int.reduceMul, Int.reduceSub, Int.reduceNeg, Int.reduceToNat]; rfl⟩
  obtain ⟨hk, hw1, hn1, hn6, p0, p1, p2, p3, p4, p5⟩ := key _ rfl
  generalize (((((((s.set s.n (.raw (.cells #[.pointer (some ⟨q.c, 0, none⟩)] 27 (0, 0)))).set (s.n + 1) (.raw (.cells #[.int .i64 t] 3 (0, 0)))).set (s.n + 1 + 1) (.raw (.cells #[.slice A (ops.length + 1) cap] 46 (0, 0)))).set (s.n + 1 + 1 + 1) (.raw (.cells #[.pointer (some ⟨q.lp, 0, none⟩)] 43 (0, 0)))).set (s.n + 1 + 1 + 1 + 1) (.raw (.cells #[.int .i64 0] 3 (0, 0)))).set (s.n + 1 + 1 + 1 + 1 + 1) (.raw (.cells #[.func (.func 33) #[] #[.pointer (some ⟨s.n + 1 + 1 + 1, 0, none⟩), .pointer (some ⟨s.n + 1 + 1 + 1 + 1, 0, none⟩), .pointer (some ⟨s.n, 0, none⟩), .pointer (some ⟨s.n + 1, 0, none⟩), .pointer (some ⟨s.n + 1 + 1, 0, none⟩)]] 65 (0, 0)))).up (s.n + 1 + 1 + 1 + 1 + 1 + 1)) = s1 at hk hw1 hn1 hn6 p0 p1 p2 p3 p4 p5 ⊢
  have he1 := he.grow hk hn1 hw1
  have hh : TH q t (.slice A (ops.length + 1) cap) (tb s.n) (grow h s s1) := ⟨gro (Nat.le_refl _) p0, gro (by simp only [tb]; omega) p1, gro (by simp only [tb]; omega) p2, gro (by simp only [tb]; omega) p3⟩
  have hi := gro (h := h) (s := s) (by omega) p4
  have ho1 := ho.more (h2 := grow h s s1) he.gsub
  have hx := gro (h := h) (s := s) (by omega) p5
  have nb : ∀ {c : Nat}, c ≠ s.n + 1 + 1 + 1 + 1 → ∀ y, putH (grow h s s1) (s.n + 1 + 1 + 1 + 1) y c = grow h s s1 c := fun hc y => putH_ne hc
  refine callF_of (do_of (L := cL (B := B) nr rn H) (t := t) (n := 4 * ops.length + 3) (a := .bg op) (r := ops.map .bg) (φ := fun u => { u with log := u.log.begin t op }) (η := fun u => putH (grow h s s1) (tb s.n).bi (.raw (.cells #[.int .i64 ((u.log.l.length : Int) + 1)] 3 (0, 0)))) (ψ := fun u u1 => (u1, aft nr op u.log.l.length ++ ops.map .bg))
    (beg_ok hw hh ho1 hi) (fun u c hc => ?_) ⟨rfl, rfl⟩ (fun u hu => ?_) (fun u hu => ⟨rfl, rfl, rfl⟩) he1 fun v' s' ha hw' => ?_)
  · rw [putH_ne (fun e => by rw [e] at hc; simp only [tb] at hc; rw [hi] at hc; cases hc)]; exact hc
  · refine go_ok hw ht (j := u.log.l.length) (A := A) (cap := cap) (w := tb s.n) ih ⟨?_, ?_, ?_, ?_⟩ ?_ putH_eq ?_
    · exact (putH_ne (by simp only [tb]; omega)).trans hh.c
    · exact (putH_ne (by simp only [tb]; omega)).trans hh.m
    · exact (putH_ne (by simp only [tb]; omega)).trans hh.o
    · exact (putH_ne (by simp only [tb]; omega)).trans hh.l
    · refine ho.more fun c y hc => ?_
      have := he.hlt hc
      rw [putH_ne (by simp only [tb]; omega)]
      exact he.gsub c y hc
    · exact (putH_ne (by simp only [tb]; omega)).trans hx
  · simp -implicitDefEqProofs (disch := first | omega | (simp only [St.set_n, St.up_n, List.length_cons, List.length_nil]; omega)) only [go_sem, Nat.reduceAdd, Nat.reduceMul, Nat.reduceSub, Int.reduceAdd, Int.reduceMul, Int.reduceSub, Int.reduceNeg, Int.reduceToNat]
    have hfin := Aft.since he hk hn1 ha
    first | exact hK _ _ hfin hw' | (intro j3 hj3; exact hK _ _ (hfin.up hj3) (hw'.up hj3))
theorem thread_of (hw : YW q nr rn rr rb H) (ht : t ≤ 1000) : ∀ ops : List COp, ThrOk B q nr rn H t ops
  | [] => thread_nil
  | _ :: ops => thread_cons hw ht (thread_of hw ht ops)
end
end Go.Proofs.YtdbgeahmhfocaaaGreat

/- Epochs, a pool, cells: contracts, by walks. -/
namespace Go.Proofs.YtdbgeahmhfocaaaGreat
set_option linter.unusedSimpArgs false
set_option linter.unusedVariables false
set_option maxRecDepth 100000
open Go Go.RowKit
section
variable {B : World} {σ : St} {K : Value → St → Prop}
/-! ### The epochs -/
structure ES where
  now : Nat
  pin : List Int
  l0 : List Int
  l1 : List Int
  l2 : List Int
def epRoot (now : Nat) : List Value → List Value
  | [p, a, b, c] => [.int .i64 now, p, a, b, c]
  | _ => []
@[go_sem] theorem epRoot_four {now : Nat} {p a b c : Value} : epRoot now [p, a, b, c] = [.int .i64 now, p, a, b, c] := rfl
def spEp (S : ES) : List Sp := [⟨3, 1, ints S.pin, S.pin.length⟩, ⟨3, 1, ints S.l0, S.l0.length⟩, ⟨3, 1, ints S.l1, S.l1.length⟩, ⟨3, 1, ints S.l2, S.l2.length⟩]
abbrev EpR (S : ES) (p : Nat) : Heaplet → Prop := Obj 132 (epRoot S.now) (spEp S) p

theorem ep_there {p n : Nat} {A : Option Addr} {c : Nat} {now : Int} {a b d : Value} {t : Int} (hr : σ.m p = some (.raw (.cells #[.int .i64 now, .slice A n c, a, b, d] 132 (0, 0)))) (hK : K (.bool (decide (0 ≤ t ∧ t < n))) σ) :
    Fn Tryz.prog B 72 #[.pointer (some ⟨p, 0, none⟩), .int .i64 t] σ K := by
  refine Fn.of is72 (by simp) fun hwf => ?_
  simp only [b72, Tryz.f72, Option.getD_some]
  by_cases h : 0 ≤ t
  · simp -implicitDefEqProofs (disch := first | omega | (simp only [St.set_n, St.up_n, List.length_cons, List.length_nil]; omega)) only [go_sem, Nat.reduceAdd, Nat.reduceMul, Nat.reduceSub, Int.reduceAdd, Int.reduceMul, Int.reduceSub, Int.reduceNeg, Int.reduceToNat, hr, h]
    simpa [h] using hK
  · simp -implicitDefEqProofs (disch := first | omega | (simp only [St.set_n, St.up_n, List.length_cons, List.length_nil]; omega)) only [go_sem, Nat.reduceAdd, Nat.reduceMul, Nat.reduceSub, Int.reduceAdd, Int.reduceMul, Int.reduceSub, Int.reduceNeg, Int.reduceToNat, hr, h]
    simpa [h] using hK
theorem ep_there_nil {t : Int} (hK : K (.bool false) σ) : Fn Tryz.prog B 72 #[.pointer none, .int .i64 t] σ K := by
  refine Fn.of is72 (by simp) fun hwf => ?_
  simp only [b72, Tryz.f72, Option.getD_some]
  simp -implicitDefEqProofs (disch := first | omega | (simp only [St.set_n, St.up_n, List.length_cons, List.length_nil]; omega)) only [go_sem, Nat.reduceAdd, Nat.reduceMul, Nat.reduceSub, Int.reduceAdd, Int.reduceMul, Int.reduceSub, Int.reduceNeg, Int.reduceToNat]
  exact hK
/-- Is a thread pinned? -/
def isPin (pin : List Int) (t : Int) : Bool := decide (0 ≤ t ∧ t < pin.length) && decide (0 ≤ pin.getD t.toNat (-1))
theorem ep_pinned_o {p : Nat} {pin : List Int} {v : Value} {now : Int} {a b d : Value} {t : Int} (hr : σ.m p = some (.raw (.cells #[.int .i64 now, v, a, b, d] 132 (0, 0)))) (ho : Own σ 3 1 (ints pin) pin.length v) (hK : K (.bool (isPin pin t)) σ) :
    Fn Tryz.prog B 49 #[.pointer (some ⟨p, 0, none⟩), .int .i64 t] σ K := by
  obtain ⟨A, c, rfl, hc⟩ := ho.is
  refine Fn.of is49 (by simp) fun hwf => ?_
  simp only [b49, Tryz.f49, Option.getD_some]
  simp -implicitDefEqProofs (disch := first | omega | (simp only [St.set_n, St.up_n, List.length_cons, List.length_nil]; omega)) only [go_sem, Nat.reduceAdd, Nat.reduceMul, Nat.reduceSub, Int.reduceAdd, Int.reduceMul, Int.reduceSub, Int.reduceNeg, Int.reduceToNat]
  refine callF_of (ep_there hr ?_)
  by_cases hin : 0 ≤ t ∧ t < pin.length
  · obtain ⟨i, rfl⟩ : ∃ i : Nat, t = (i : Int) := ⟨t.toNat, by omega⟩
    obtain ⟨x, hx⟩ : ∃ x, pin[i]? = some x := ⟨pin[i]'(by omega), List.getElem?_eq_getElem (by omega)⟩
    obtain ⟨b1, c1, sp1, e1, _, m1, _, _⟩ := ho.has (by omega)
    cases e1
    have g1 : (ints pin ++ sp1)[i]? = some (.int .i64 x) := ints_get hx sp1
    simp -implicitDefEqProofs (disch := first | omega | (simp only [St.set_n, St.up_n, List.length_cons, List.length_nil]; omega)) only [go_sem, Nat.reduceAdd, Nat.reduceMul, Nat.reduceSub, Int.reduceAdd, Int.reduceMul, Int.reduceSub, Int.reduceNeg, Int.reduceToNat, hr, hin, m1, g1]
    simpa [isPin, hin, List.getD, hx] using hK
  · simp -implicitDefEqProofs (disch := first | omega | (simp only [St.set_n, St.up_n, List.length_cons, List.length_nil]; omega)) only [go_sem, Nat.reduceAdd, Nat.reduceMul, Nat.reduceSub, Int.reduceAdd, Int.reduceMul, Int.reduceSub, Int.reduceNeg, Int.reduceToNat, hr, hin]
    simpa [isPin, hin] using hK
theorem ep_pinned {S : ES} {p : Nat} {t : Int} (hm : σ.m p = some (.comp (EpR S p))) (hK : ∀ k, σ.n ≤ k → K (.bool (isPin S.pin t)) (σ.up k)) : Fn Tryz.prog B 49 #[.pointer (some ⟨p, 0, none⟩), .int .i64 t] σ K := by
  refine Fn.toK (Fn.openO hm is49.en fun vs τ hwf hn hr ho ha hk => ?_)
  obtain ⟨v1, v2, v3, v4, rfl, o1, o2, o3, o4⟩ := ho.four
  simp only [epRoot_four] at hr
  exact ep_pinned_o hr o1 ((⟨hwf, hr, ho, ha, hk, by omega⟩ : Opn B σ τ p 132 (epRoot S.now) (spEp S) [v1, v2, v3, v4]).close' hm hK)
theorem ep_pinned_nil {t : Int} (hK : K (.bool false) σ) : Fn Tryz.prog B 49 #[.pointer none, .int .i64 t] σ K := by
  refine Fn.of is49 (by simp) fun hwf => ?_
  simp only [b49, Tryz.f49, Option.getD_some]
  simp -implicitDefEqProofs (disch := first | omega | (simp only [St.set_n, St.up_n, List.length_cons, List.length_nil]; omega)) only [go_sem, Nat.reduceAdd, Nat.reduceMul, Nat.reduceSub, Int.reduceAdd, Int.reduceMul, Int.reduceSub, Int.reduceNeg, Int.reduceToNat]
  refine callF_of (ep_there_nil ?_)
  simp -implicitDefEqProofs (disch := first | omega | (simp only [St.set_n, St.up_n, List.length_cons, List.length_nil]; omega)) only [go_sem, Nat.reduceAdd, Nat.reduceMul, Nat.reduceSub, Int.reduceAdd, Int.reduceMul, Int.reduceSub, Int.reduceNeg, Int.reduceToNat]
  exact hK
structure Nw (p n i : Nat) (e : Fr) : Prop where
  v3 : e.v 3 = .pointer (some ⟨p, 0, none⟩)
  v8 : e.v 8 = .int .i64 n
  v9 : e.v 9 = .int .i64 i
  d : e.d = []
theorem ep_new {th : Int} {n : Nat} (hn : max (min th 64) 0 = (n : Int)) (hK : ∀ k, σ.n < k → K (.pointer (some ⟨σ.n, 0, none⟩)) ((σ.set σ.n (.comp (EpR { now := 0, pin := List.replicate n (-1), l0 := [], l1 := [], l2 := [] } σ.n))).up k)) : Fn Tryz.prog B 23 #[.int .i64 th] σ K := by
  refine Fn.of' is23 (by simp) fun hwf => ?_
  simp only [b23, Tryz.f23, Option.getD_some]
  simp -implicitDefEqProofs (disch := first | omega | (simp only [St.set_n, St.up_n, List.length_cons, List.length_nil]; omega)) only [go_sem, Nat.reduceAdd, Nat.reduceMul, Nat.reduceSub, Int.reduceAdd, Int.reduceMul, Int.reduceSub, Int.reduceNeg, Int.reduceToNat, hn]
  refine loop_rule (fun m e s => ∃ (i : Nat) (vs : List Value), m = n - i ∧ i ≤ n ∧ Nw σ.n n i e ∧ Opn B σ s σ.n 132 (epRoot 0) (spEp { now := 0, pin := List.replicate i (-1), l0 := [], l1 := [], l2 := [] }) vs ∧ σ.n < s.n) n ?_ ?_
  · refine ⟨0, [.slice none 0 0, .slice none 0 0, .slice none 0 0, .slice none 0 0], by omega, by omega, ⟨by simp -implicitDefEqProofs (disch := first | omega | (simp only [St.set_n, St.up_n, List.length_cons, List.length_nil]; omega)) only [go_sem, Nat.reduceAdd, Nat.reduceMul, Nat.reduceSub, Int.reduceAdd, Int.reduceMul, Int.reduceSub, Int.reduceNeg, Int.reduceToNat], by simp -implicitDefEqProofs (disch := first | omega | (simp only [St.set_n, St.up_n, List.length_cons, List.length_nil]; omega)) only [go_sem, Nat.reduceAdd, Nat.reduceMul, Nat.reduceSub, Int.reduceAdd, Int.reduceMul, Int.reduceSub, Int.reduceNeg, Int.reduceToNat], by simp -implicitDefEqProofs (disch := first | omega | (simp only [St.set_n, St.up_n, List.length_cons, List.length_nil]; omega)) only [go_sem, Nat.reduceAdd, Nat.reduceMul, Nat.reduceSub, Int.reduceAdd, Int.reduceMul, Int.reduceSub, Int.reduceNeg, Int.reduceToNat]; rfl, by simp -implicitDefEqProofs (disch := first | omega | (simp only [St.set_n, St.up_n, List.length_cons, List.length_nil]; omega)) only [go_sem, Nat.reduceAdd, Nat.reduceMul, Nat.reduceSub, Int.reduceAdd, Int.reduceMul, Int.reduceSub, Int.reduceNeg, Int.reduceToNat]⟩, ⟨?_, by simp -implicitDefEqProofs (disch := first | omega | (simp only [St.set_n, St.up_n, List.length_cons, List.length_nil]; omega)) only [go_sem, Nat.reduceAdd, Nat.reduceMul, Nat.reduceSub, Int.reduceAdd, Int.reduceMul, Int.reduceSub, Int.reduceNeg, Int.reduceToNat]; rfl, ⟨Own.nil, Own.nil, Own.nil, Own.nil, trivial⟩, by simp -implicitDefEqProofs (disch := first | omega | (simp only [St.set_n, St.up_n, List.length_cons, List.length_nil]; omega)) only [go_sem, Nat.reduceAdd, Nat.reduceMul, Nat.reduceSub, Int.reduceAdd, Int.reduceMul, Int.reduceSub, Int.reduceNeg, Int.reduceToNat], fun c x hc hx => ⟨by simp -implicitDefEqProofs (disch := first | omega | (simp only [St.set_n, St.up_n, List.length_cons, List.length_nil]; omega)) only [go_sem, Nat.reduceAdd, Nat.reduceMul, Nat.reduceSub, Int.reduceAdd, Int.reduceMul, Int.reduceSub, Int.reduceNeg, Int.reduceToNat, hx], by simp -implicitDefEqProofs (disch := first | omega | (simp only [St.set_n, St.up_n, List.length_cons, List.length_nil]; omega)) only [go_sem, Nat.reduceAdd, Nat.reduceMul, Nat.reduceSub, Int.reduceAdd, Int.reduceMul, Int.reduceSub, Int.reduceNeg, Int.reduceToNat]⟩, by simp -implicitDefEqProofs (disch := first | omega | (simp only [St.set_n, St.up_n, List.length_cons, List.length_nil]; omega)) only [go_sem, Nat.reduceAdd, Nat.reduceMul, Nat.reduceSub, Int.reduceAdd, Int.reduceMul, Int.reduceSub, Int.reduceNeg, Int.reduceToNat]; omega⟩, by simp -implicitDefEqProofs (disch := first | omega | (simp only [St.set_n, St.up_n, List.length_cons, List.length_nil]; omega)) only [go_sem, Nat.reduceAdd, Nat.reduceMul, Nat.reduceSub, Int.reduceAdd, Int.reduceMul, Int.reduceSub, Int.reduceNeg, Int.reduceToNat]; omega⟩
    refine ⟨by have := hwf.1; simp -implicitDefEqProofs (disch := first | omega | (simp only [St.set_n, St.up_n, List.length_cons, List.length_nil]; omega)) only [go_sem, Nat.reduceAdd, Nat.reduceMul, Nat.reduceSub, Int.reduceAdd, Int.reduceMul, Int.reduceSub, Int.reduceNeg, Int.reduceToNat]; omega, fun b x hb => ?_⟩
    simp only [St.up_m] at hb
    have := hwf.1
    by_cases e : b = σ.n
    · subst e; simp -implicitDefEqProofs (disch := first | omega | (simp only [St.set_n, St.up_n, List.length_cons, List.length_nil]; omega)) only [go_sem, Nat.reduceAdd, Nat.reduceMul, Nat.reduceSub, Int.reduceAdd, Int.reduceMul, Int.reduceSub, Int.reduceNeg, Int.reduceToNat]; omega
    · rw [St.set_m_ne _ _ e] at hb
      have := hwf.2 b x hb
      simp -implicitDefEqProofs (disch := first | omega | (simp only [St.set_n, St.up_n, List.length_cons, List.length_nil]; omega)) only [go_sem, Nat.reduceAdd, Nat.reduceMul, Nat.reduceSub, Int.reduceAdd, Int.reduceMul, Int.reduceSub, Int.reduceNeg, Int.reduceToNat]; omega
  · rintro m e s hws ⟨i, vs, hm, hi, ⟨q3, q8, q9, hd⟩, O, hsn⟩
    obtain ⟨v1, v2, v3, v4, rfl, o1, o2, o3, o4⟩ := O.own.four
    simp only [List.length_replicate, List.length_nil] at o1 o2 o3 o4
    have hr := O.root
    simp only [epRoot_four] at hr
    by_cases hlt : (i : Int) < n
    · simp -implicitDefEqProofs (disch := first | omega | (simp only [St.set_n, St.up_n, List.length_cons, List.length_nil]; omega)) only [go_sem, Nat.reduceAdd, Nat.reduceMul, Nat.reduceSub, Int.reduceAdd, Int.reduceMul, Int.reduceSub, Int.reduceNeg, Int.reduceToNat, q3, q8, q9, hlt, hr]
      refine appO_one (O.new (.raw (.cells #[.int .i64 (-1)] 3 (0, 0))) (k := s.n + 1) (by omega)) 0 (b := s.n) (s := 1) (bts := 8) (ty' := 3) (fz := (0, 0)) (ys := [.int .i64 (-1)]) rfl rfl se22 kd22 zr3 rfl (by omega) (by simp -implicitDefEqProofs (disch := first | omega | (simp only [St.set_n, St.up_n, List.length_cons, List.length_nil]; omega)) only [go_sem, Nat.reduceAdd, Nat.reduceMul, Nat.reduceSub, Int.reduceAdd, Int.reduceMul, Int.reduceSub, Int.reduceNeg, Int.reduceToNat]) rfl rfl (by simp only [List.length_replicate]; omega) fun A' C' σ' hC' hp' hO hfr hn' => ?_
      have O1 := hO (epRoot 0)
      simp only [List.set_cons_zero, List.set_cons_succ, epRoot_four, spEp, List.length_replicate] at O1 hp'
      simp -implicitDefEqProofs (disch := first | omega | (simp only [St.set_n, St.up_n, List.length_cons, List.length_nil]; omega)) only [go_sem, Nat.reduceAdd, Nat.reduceMul, Nat.reduceSub, Int.reduceAdd, Int.reduceMul, Int.reduceSub, Int.reduceNeg, Int.reduceToNat, hp', q3, q9]
      simp only [List.length_replicate]
      refine ⟨n - (i + 1), by omega, i + 1, _, rfl, by omega, ⟨by simp -implicitDefEqProofs (disch := first | omega | (simp only [St.set_n, St.up_n, List.length_cons, List.length_nil]; omega)) only [go_sem, Nat.reduceAdd, Nat.reduceMul, Nat.reduceSub, Int.reduceAdd, Int.reduceMul, Int.reduceSub, Int.reduceNeg, Int.reduceToNat, q3], by simp -implicitDefEqProofs (disch := first | omega | (simp only [St.set_n, St.up_n, List.length_cons, List.length_nil]; omega)) only [go_sem, Nat.reduceAdd, Nat.reduceMul, Nat.reduceSub, Int.reduceAdd, Int.reduceMul, Int.reduceSub, Int.reduceNeg, Int.reduceToNat, q8], by simp -implicitDefEqProofs (disch := first | omega | (simp only [St.set_n, St.up_n, List.length_cons, List.length_nil]; omega)) only [go_sem, Nat.reduceAdd, Nat.reduceMul, Nat.reduceSub, Int.reduceAdd, Int.reduceMul, Int.reduceSub, Int.reduceNeg, Int.reduceToNat]; simp, by simp -implicitDefEqProofs (disch := first | omega | (simp only [St.set_n, St.up_n, List.length_cons, List.length_nil]; omega)) only [go_sem, Nat.reduceAdd, Nat.reduceMul, Nat.reduceSub, Int.reduceAdd, Int.reduceMul, Int.reduceSub, Int.reduceNeg, Int.reduceToNat, hd]⟩, O1.cast ?_, by simp only [St.set_n, St.up_n] at *; omega⟩
      have : List.replicate (i + 1) (-1 : Int) = List.replicate i (-1) ++ [-1] := List.replicate_succ'
      simp [spEp, ints, this]
    · have : i = n := by omega
      subst this
      simp -implicitDefEqProofs (disch := first | omega | (simp only [St.set_n, St.up_n, List.length_cons, List.length_nil]; omega)) only [go_sem, Nat.reduceAdd, Nat.reduceMul, Nat.reduceSub, Int.reduceAdd, Int.reduceMul, Int.reduceSub, Int.reduceNeg, Int.reduceToNat, q3, q8, q9, hlt, hd]
      exact ⟨_, To.closeO _ O.root O.own O.apart O.fr, hK _ hsn⟩

theorem pool_new {lim lim' : Int} (hl : max (min lim 65536) 0 = lim') (hK : K (.pointer (some ⟨σ.n, 0, none⟩)) ((σ.set σ.n (.raw (.cells #[.slice none 0 0, .slice none 0 0, .int .i64 lim'] 135 (0, 0)))).up (σ.n + 1))) : Fn Tryz.prog B 24 #[.int .i64 lim] σ K := by
  refine Fn.of is24 (by simp) fun hwf => ?_
  simp only [b24, Tryz.f24, Option.getD_some]
  simp -implicitDefEqProofs (disch := first | omega | (simp only [St.set_n, St.up_n, List.length_cons, List.length_nil]; omega)) only [go_sem, Nat.reduceAdd, Nat.reduceMul, Nat.reduceSub, Int.reduceAdd, Int.reduceMul, Int.reduceSub, Int.reduceNeg, Int.reduceToNat, hl]
  exact hK
theorem pool_at {b n cap p i : Nat} {v : Value} {lim : Int} (hr : σ.m p = some (.raw (.cells #[.slice (some ⟨b, 0, none⟩) n cap, v, .int .i64 lim] 135 (0, 0)))) (hi : i < n) (hn : n ≤ 1000000) (hK : K (.pointer (some ⟨b, i * 4, none⟩)) σ) :
    Fn Tryz.prog B 60 #[.pointer (some ⟨p, 0, none⟩), .int .i64 (i + 1)] σ K := by
  refine Fn.of is60 (by simp) fun hwf => ?_
  simp only [b60, Tryz.f60, Option.getD_some]
  have e1 : (i : Int) + 1 - 1 = i := by omega
  simp -implicitDefEqProofs (disch := first | omega | (simp only [St.set_n, St.up_n, List.length_cons, List.length_nil]; omega)) only [go_sem, Nat.reduceAdd, Nat.reduceMul, Nat.reduceSub, Int.reduceAdd, Int.reduceMul, Int.reduceSub, Int.reduceNeg, Int.reduceToNat, hr, e1]
  exact hK
/-- The first place of a new pool. -/
theorem pool_take {p : Nat} {x : Value} {xi : Int} {lim : Int} (hx : x = .agg #[.pointer none, .int .i64 xi]) (hr : σ.m p = some (.raw (.cells #[.slice none 0 0, .slice none 0 0, .int .i64 lim] 135 (0, 0)))) (hl : 0 < lim)
    (hK : ∀ τ, σ.n ≤ τ.n → (∀ c, c < σ.n → c ≠ p → τ.m c = σ.m c) → K (.tuple #[.int .i64 1, .int .i64 0, .int .i64 0]) τ) : Fn Tryz.prog B 26 #[.pointer (some ⟨p, 0, none⟩), x] σ K := by
  subst hx
  refine Fn.of is26 (by simp) fun hwf => ?_
  have hB := hwf.1
  have hpn := (hwf.2 _ _ hr).2
  simp only [b26, Tryz.f26, Option.getD_some]
  simp -implicitDefEqProofs (disch := first | omega | (simp only [St.set_n, St.up_n, List.length_cons, List.length_nil]; omega)) only [go_sem, Nat.reduceAdd, Nat.reduceMul, Nat.reduceSub, Int.reduceAdd, Int.reduceMul, Int.reduceSub, Int.reduceNeg, Int.reduceToNat, hr, hl]
  have hw1 := set_wf1 (y := .raw (.cells #[.pointer none, .int .i64 xi] 77 (0, 0))) hwf
  refine appE (s := (σ.set σ.n (.raw (.cells #[.pointer none, .int .i64 xi] 77 (0, 0)))).up (σ.n + 1)) hw1 Own.nil se133 kd133 zr140 rfl (by omega) (ys := [.pointer none, .int .i64 0, .int .i64 0, .bool false]) rfl rfl (by omega) fun A' C' s3 hC' o3 heq hb' hn3 hw3 => ?_
  have hp3 : s3.m p = some (.raw (.cells #[.slice none 0 0, .slice none 0 0, .int .i64 lim] 135 (0, 0))) := by
    rw [heq p (by simp only [St.up_n]; omega) (fun e => by cases e)]
    simp -implicitDefEqProofs (disch := first | omega | (simp only [St.set_n, St.up_n, List.length_cons, List.length_nil]; omega)) only [go_sem, Nat.reduceAdd, Nat.reduceMul, Nat.reduceSub, Int.reduceAdd, Int.reduceMul, Int.reduceSub, Int.reduceNeg, Int.reduceToNat, hr]
  have hx3 : s3.m σ.n = some (.raw (.cells #[.pointer none, .int .i64 xi] 77 (0, 0))) := by
    rw [heq σ.n (by simp only [St.up_n]; omega) (fun e => by cases e)]
    simp -implicitDefEqProofs (disch := first | omega | (simp only [St.set_n, St.up_n, List.length_cons, List.length_nil]; omega)) only [go_sem, Nat.reduceAdd, Nat.reduceMul, Nat.reduceSub, Int.reduceAdd, Int.reduceMul, Int.reduceSub, Int.reduceNeg, Int.reduceToNat]
  have hk3 : ∀ c, c < σ.n → s3.m c = σ.m c := fun c hc => by
    rw [heq c (by simp only [St.up_n]; omega) (fun e => by cases e)]
    simp -implicitDefEqProofs (disch := first | omega | (simp only [St.set_n, St.up_n, List.length_cons, List.length_nil]; omega)) only [go_sem, Nat.reduceAdd, Nat.reduceMul, Nat.reduceSub, Int.reduceAdd, Int.reduceMul, Int.reduceSub, Int.reduceNeg, Int.reduceToNat]
  obtain ⟨b1, c1, sp1, e1, hc1, m1, l1, k1⟩ := o3.has (by omega)
  cases e1
  have hb1 := (hb' b1 rfl).resolve_right (fun e => by cases e)
  simp only [St.up_n] at hb1 hn3
  have hb1n := (hw3.2 _ _ m1).2
  simp -implicitDefEqProofs (disch := first | omega | (simp only [St.set_n, St.up_n, List.length_cons, List.length_nil]; omega)) only [go_sem, Nat.reduceAdd, Nat.reduceMul, Nat.reduceSub, Int.reduceAdd, Int.reduceMul, Int.reduceSub, Int.reduceNeg, Int.reduceToNat, hp3]
  refine callF_of (pool_at (b := b1) (i := 0) (n := 1) (cap := C') (v := .slice none 0 0) (lim := lim) (by simp -implicitDefEqProofs (disch := first | omega | (simp only [St.set_n, St.up_n, List.length_cons, List.length_nil]; omega)) only [go_sem, Nat.reduceAdd, Nat.reduceMul, Nat.reduceSub, Int.reduceAdd, Int.reduceMul, Int.reduceSub, Int.reduceNeg, Int.reduceToNat]) (by omega) (by omega) ?_)
  simp -implicitDefEqProofs (disch := first | omega | (simp only [St.set_n, St.up_n, List.length_cons, List.length_nil]; omega)) only [go_sem, Nat.reduceAdd, Nat.reduceMul, Nat.reduceSub, Int.reduceAdd, Int.reduceMul, Int.reduceSub, Int.reduceNeg, Int.reduceToNat, m1, hx3]
  refine hK _ ?_ fun c hc hcp => ?_
  · simp only [St.set_n]; omega
  · have h3 := hk3 c hc
    simp -implicitDefEqProofs (disch := first | omega | (simp only [St.set_n, St.up_n, List.length_cons, List.length_nil]; omega)) only [go_sem, Nat.reduceAdd, Nat.reduceMul, Nat.reduceSub, Int.reduceAdd, Int.reduceMul, Int.reduceSub, Int.reduceNeg, Int.reduceToNat]
    exact h3
theorem cellR_new {a b : Int} (hK : K (.pointer (some ⟨σ.n + 1, 0, none⟩)) (((σ.set σ.n (.raw (.cells #[.int .i64 a, .int .i64 b] 92 (0, 0)))).set (σ.n + 1) (.raw (.cells #[.int .i64 a, .int .i64 b, .int .i64 0] 144 (0, 0)))).up (σ.n + 1 + 1))) : Fn Tryz.prog B 27 #[.agg #[.int .i64 a, .int .i64 b]] σ K := by
  refine Fn.of is27 (by simp) fun hwf => ?_
  simp only [b27, Tryz.f27, Option.getD_some]
  simp -implicitDefEqProofs (disch := first | omega | (simp only [St.set_n, St.up_n, List.length_cons, List.length_nil]; omega)) only [go_sem, Nat.reduceAdd, Nat.reduceMul, Nat.reduceSub, Int.reduceAdd, Int.reduceMul, Int.reduceSub, Int.reduceNeg, Int.reduceToNat]
  exact hK
theorem cellS_new {v : Value} {a : Option Addr} (hv : v = .pointer a) (hK : K (.pointer (some ⟨σ.n, 0, none⟩)) ((σ.set σ.n (.raw (.cells #[v, .int .i64 0] 146 (0, 0)))).up (σ.n + 1))) : Fn Tryz.prog B 28 #[v] σ K := by
  subst hv
  refine Fn.of is28 (by simp) fun hwf => ?_
  simp only [b28, Tryz.f28, Option.getD_some]
  simp -implicitDefEqProofs (disch := first | omega | (simp only [St.set_n, St.up_n, List.length_cons, List.length_nil]; omega)) only [go_sem, Nat.reduceAdd, Nat.reduceMul, Nat.reduceSub, Int.reduceAdd, Int.reduceMul, Int.reduceSub, Int.reduceNeg, Int.reduceToNat]
  exact hK
end
end Go.Proofs.YtdbgeahmhfocaaaGreat

/- A new core: its contract, by a walk. -/
namespace Go.Proofs.YtdbgeahmhfocaaaGreat
set_option linter.unusedSimpArgs false
set_option linter.unusedVariables false
set_option maxRecDepth 100000
open Go Go.RowKit
section
variable {B : World} {σ : St} {K : Value → St → Prop}
def coreN (v : Int) : Nat := (max (min v 8) 0).toNat
def roomN (v : Int) : Nat := (max (min v 16) 1).toNat
structure CnF (c : Nat) (subs cap : Int) (e : Fr) : Prop where
  v0 : e.v 0 = .int .i64 subs
  v1 : e.v 1 = .int .i64 cap
  v5 : e.v 5 = .pointer (some ⟨c, 0, none⟩)
  d : e.d = []
structure CnS (τ : St) (c e p g ro : Nat) (s : St) : Prop where
  core : ∃ a0 a1 a2 a3, s.m c = some (.raw (.cells #[.pointer (some ⟨e, 0, none⟩), .pointer (some ⟨p, 0, none⟩), .pointer (some ⟨g, 0, none⟩), .pointer (some ⟨ro, 0, none⟩), .pointer a0, .pointer a1, .pointer a2, .pointer a3, .slice none 0 0, .int .i64 0] 87 (0, 0)))
  keep : ∀ x, x < c → x ≠ p → s.m x = τ.m x
  n : c < s.n
def rgP (rr : Nat → Nat) (i : Nat) : List Value := (List.range i).map fun j => .pointer (some ⟨rr j, 0, none⟩)
structure CnR (τ : St) (c e p g ro i rn : Nat) (s : St) (rr rb : Nat → Nat) (w : Value) : Prop where
  core : ∃ a0 a1 a2 a3, s.m c = some (.raw (.cells #[.pointer (some ⟨e, 0, none⟩), .pointer (some ⟨p, 0, none⟩), .pointer (some ⟨g, 0, none⟩), .pointer (some ⟨ro, 0, none⟩), .pointer a0, .pointer a1, .pointer a2, .pointer a3, w, .int .i64 0] 87 (0, 0)))
  keep : ∀ x, x < c → x ≠ p → s.m x = τ.m x
  n : c < s.n
  own : Own s 100 1 (rgP rr i) i w
  ring : ∀ j, j < i → IsRing s (rr j) (rb j) rn [] 0 0
  ord : ∀ j, j < i → c < rb j ∧ rr j = rb j + 1 ∧ ∀ k, k < j → rr k < rb j
  hb : ∀ b, blk w = some b → c < b ∧ ∀ j, j < i → b ≠ rr j ∧ b ≠ rb j
theorem isRing_keep {s s' : St} {r b n G : Nat} {L : List Mg} {D : Int} (h : IsRing s r b n L G D) (h1 : s'.m r = s.m r) (h2 : s'.m b = s.m b) : IsRing s' r b n L G D :=
  ⟨h.ne, h.pos, h.big, h.full, h.low, h1.trans h.root, h2.trans h.row⟩
theorem rgP_succ {rr : Nat → Nat} {i x : Nat} : rgP rr i ++ [.pointer (some ⟨x, 0, none⟩)] = rgP (updL rr i x) (i + 1) := by
  unfold rgP
  rw [List.range_succ, List.map_append]
  congr 1
  · refine List.map_congr_left fun j hj => ?_
    rw [updL_ne (by have := List.mem_range.1 hj; omega)]
  · simp [updL_eq]
structure CB where
  c : Nat
  g : Nat
  b : Nat
  e : Nat
  p : Nat
  ro : Nat
/-- A new core in memory. -/
structure NewI (σ : St) (q : CB) (nr rn : Nat) (s : St) (rr rb : Nat → Nat) (w : Value) : Prop where
  r : ∃ τ, CnR τ q.c q.e q.p q.g q.ro nr rn s rr rb w
  n : σ.n ≤ s.n
  keep : ∀ x y, σ.m x = some y → s.m x = some y
  ep : s.m q.e = some (.comp (EpR { now := 0, pin := List.replicate 64 (-1), l0 := [], l1 := [], l2 := [] } q.e))
  gr : s.m q.g = some (.raw (.cells #[.slice (some ⟨q.b, 0, none⟩) (12 : Nat) (12 : Nat)] 138 (0, 0)))
  lk : s.m q.b = some (.raw (.cells (flat fLk (List.replicate 12 (0, 0, 0))).toArray 168 (0, 0)))
  le : σ.n ≤ q.e ∧ q.e < q.c
  lg : σ.n ≤ q.g ∧ q.g < q.c
  lb : σ.n ≤ q.b ∧ q.b < q.c
theorem core_new {subs cap : Int} (hK : ∀ q rr rb w τ, NewI σ q (coreN subs) (roomN cap) τ rr rb w → τ.wf B → K (.pointer (some ⟨q.c, 0, none⟩)) τ) : Fn Tryz.prog B 7 #[.int .i64 subs, .int .i64 cap] σ K := by
  refine Fn.ofS is7 (by simp) fun hwf => ?_
  have hB := hwf.1
  simp only [b7, Tryz.f7, Option.getD_some]
  refine SemS.seqw fun _ => ?_
  simp -implicitDefEqProofs (disch := first | omega | (simp only [St.set_n, St.up_n, List.length_cons, List.length_nil]; omega)) only [go_sem, Nat.reduceAdd, Nat.reduceMul, Nat.reduceSub, Int.reduceAdd, Int.reduceMul, Int.reduceSub, Int.reduceNeg, Int.reduceToNat]
  refine SemS.seqw fun _ => ?_
  simp -implicitDefEqProofs (disch := first | omega | (simp only [St.set_n, St.up_n, List.length_cons, List.length_nil]; omega)) only [go_sem, Nat.reduceAdd, Nat.reduceMul, Nat.reduceSub, Int.reduceAdd, Int.reduceMul, Int.reduceSub, Int.reduceNeg, Int.reduceToNat]
  refine callF_wf (ep_new (th := 64) (n := 64) (by omega) fun k1 hk1 hw1 => ?_)
  simp -implicitDefEqProofs (disch := first | omega | (simp only [St.set_n, St.up_n, List.length_cons, List.length_nil]; omega)) only [go_sem, Nat.reduceAdd, Nat.reduceMul, Nat.reduceSub, Int.reduceAdd, Int.reduceMul, Int.reduceSub, Int.reduceNeg, Int.reduceToNat]
  refine callF_wf (pool_new (lim := 65536) (lim' := 65536) (by omega) fun hw2 => ?_)
  simp -implicitDefEqProofs (disch := first | omega | (simp only [St.set_n, St.up_n, List.length_cons, List.length_nil]; omega)) only [go_sem, Nat.reduceAdd, Nat.reduceMul, Nat.reduceSub, Int.reduceAdd, Int.reduceMul, Int.reduceSub, Int.reduceNeg, Int.reduceToNat]
  refine callF_wf (locks fun g τ hg hgn hgr hold hne hwτ => ?_)
  have h1 : groupN 12 = 12 := rfl
  rw [h1] at hgr hne
  have hne := hne.resolve_left (by omega)
  obtain ⟨hg1, hg2⟩ := hgr.resolve_left fun h => by cases h.1
  have hpn : k1 < τ.n := by have := hold k1 _ (by simp only [St.up_n]; omega) (by simp -implicitDefEqProofs (disch := first | omega | (simp only [St.set_n, St.up_n, List.length_cons, List.length_nil]; omega)) only [go_sem, Nat.reduceAdd, Nat.reduceMul, Nat.reduceSub, Int.reduceAdd, Int.reduceMul, Int.reduceSub, Int.reduceNeg, Int.reduceToNat]; rfl); have := (hwτ.2 _ _ this).2; omega
  have hmp : τ.m k1 = some (.raw (.cells #[.slice none 0 0, .slice none 0 0, .int .i64 65536] 135 (0, 0))) := hold k1 _ (by simp only [St.up_n]; omega) (by simp -implicitDefEqProofs (disch := first | omega | (simp only [St.set_n, St.up_n, List.length_cons, List.length_nil]; omega)) only [go_sem, Nat.reduceAdd, Nat.reduceMul, Nat.reduceSub, Int.reduceAdd, Int.reduceMul, Int.reduceSub, Int.reduceNeg, Int.reduceToNat])
  have hme : τ.m σ.n = some (.comp (EpR { now := 0, pin := List.replicate 64 (-1), l0 := [], l1 := [], l2 := [] } σ.n)) := hold σ.n _ (by simp only [St.up_n]; omega) (by simp -implicitDefEqProofs (disch := first | omega | (simp only [St.set_n, St.up_n, List.length_cons, List.length_nil]; omega)) only [go_sem, Nat.reduceAdd, Nat.reduceMul, Nat.reduceSub, Int.reduceAdd, Int.reduceMul, Int.reduceSub, Int.reduceNeg, Int.reduceToNat])
  have hgn' := (hwτ.2 _ _ hg1).2
  have hbn' := (hwτ.2 _ _ hg2).2
  simp only [St.up_n] at hg2 hgn hg hbn' hne hg1
  have hσ : ∀ c y, σ.m c = some y → τ.m c = some y := fun c y hc => by
    have := (hwf.2 _ _ hc).2
    exact hold c y (by simp only [St.up_n]; omega) (by simp -implicitDefEqProofs (disch := first | omega | (simp only [St.set_n, St.up_n, List.length_cons, List.length_nil]; omega)) only [go_sem, Nat.reduceAdd, Nat.reduceMul, Nat.reduceSub, Int.reduceAdd, Int.reduceMul, Int.reduceSub, Int.reduceNeg, Int.reduceToNat, hc])
  simp -implicitDefEqProofs (disch := first | omega | (simp only [St.set_n, St.up_n, List.length_cons, List.length_nil]; omega)) only [go_sem, Nat.reduceAdd, Nat.reduceMul, Nat.reduceSub, Int.reduceAdd, Int.reduceMul, Int.reduceSub, Int.reduceNeg, Int.reduceToNat]
  refine SemS.seqw fun _ => ?_
  simp -implicitDefEqProofs (disch := first | omega | (simp only [St.set_n, St.up_n, List.length_cons, List.length_nil]; omega)) only [go_sem, Nat.reduceAdd, Nat.reduceMul, Nat.reduceSub, Int.reduceAdd, Int.reduceMul, Int.reduceSub, Int.reduceNeg, Int.reduceToNat]
  refine callF_wf (pool_take (xi := 0) (p := k1) (lim := 65536) rfl (by simp -implicitDefEqProofs (disch := first | omega | (simp only [St.set_n, St.up_n, List.length_cons, List.length_nil]; omega)) only [go_sem, Nat.reduceAdd, Nat.reduceMul, Nat.reduceSub, Int.reduceAdd, Int.reduceMul, Int.reduceSub, Int.reduceNeg, Int.reduceToNat, hmp]) (by omega) fun τ2 hn2 hk2 hw2' => ?_)
  simp only [St.up_n] at hn2 hk2
  have hc2 : τ2.m τ.n = some (.raw (.cells #[.pointer (some ⟨σ.n, 0, none⟩), .pointer (some ⟨k1, 0, none⟩), .pointer (some ⟨g, 0, none⟩), .pointer none, .pointer none, .pointer none, .pointer none, .pointer none, .slice none 0 0, .int .i64 0] 87 (0, 0))) := by
    rw [hk2 _ (by omega) (by omega)]
    simp -implicitDefEqProofs (disch := first | omega | (simp only [St.set_n, St.up_n, List.length_cons, List.length_nil]; omega)) only [go_sem, Nat.reduceAdd, Nat.reduceMul, Nat.reduceSub, Int.reduceAdd, Int.reduceMul, Int.reduceSub, Int.reduceNeg, Int.reduceToNat]
  have hk2' : ∀ c, c < τ.n → c ≠ k1 → τ2.m c = τ.m c := fun c hc hcp => by
    rw [hk2 c (by omega) hcp]
    simp -implicitDefEqProofs (disch := first | omega | (simp only [St.set_n, St.up_n, List.length_cons, List.length_nil]; omega)) only [go_sem, Nat.reduceAdd, Nat.reduceMul, Nat.reduceSub, Int.reduceAdd, Int.reduceMul, Int.reduceSub, Int.reduceNeg, Int.reduceToNat]
  simp -implicitDefEqProofs (disch := first | omega | (simp only [St.set_n, St.up_n, List.length_cons, List.length_nil]; omega)) only [go_sem, Nat.reduceAdd, Nat.reduceMul, Nat.reduceSub, Int.reduceAdd, Int.reduceMul, Int.reduceSub, Int.reduceNeg, Int.reduceToNat]
  refine SemS.seqw fun _ => ?_
  simp -implicitDefEqProofs (disch := first | omega | (simp only [St.set_n, St.up_n, List.length_cons, List.length_nil]; omega)) only [go_sem, Nat.reduceAdd, Nat.reduceMul, Nat.reduceSub, Int.reduceAdd, Int.reduceMul, Int.reduceSub, Int.reduceNeg, Int.reduceToNat]
  refine callF_wf (cellR_new fun hw3 => ?_)
  simp -implicitDefEqProofs (disch := first | omega | (simp only [St.set_n, St.up_n, List.length_cons, List.length_nil]; omega)) only [go_sem, Nat.reduceAdd, Nat.reduceMul, Nat.reduceSub, Int.reduceAdd, Int.reduceMul, Int.reduceSub, Int.reduceNeg, Int.reduceToNat, hc2]
  refine SemS.seq (fun e s => CnF τ.n subs cap e ∧ CnS τ τ.n σ.n k1 g (τ2.n + 1) s) ?_ ?_
  · refine SemS.seqw fun _ => ?_
    simp -implicitDefEqProofs (disch := first | omega | (simp only [St.set_n, St.up_n, List.length_cons, List.length_nil]; omega)) only [go_sem, Nat.reduceAdd, Nat.reduceMul, Nat.reduceSub, Int.reduceAdd, Int.reduceMul, Int.reduceSub, Int.reduceNeg, Int.reduceToNat]
    refine SemS.block (SemS.loop (fun m e s => ∃ i : Nat, m = 4 - i ∧ i ≤ 4 ∧ e.v 34 = .int .i64 i ∧ CnF τ.n subs cap e ∧ CnS τ τ.n σ.n k1 g (τ2.n + 1) s) 4 ?_ ?_)
    · refine ⟨0, by omega, by omega, by first | (simp -implicitDefEqProofs (disch := first | omega | (simp only [St.set_n, St.up_n, List.length_cons, List.length_nil]; omega)) only [go_sem, Nat.reduceAdd, Nat.reduceMul, Nat.reduceSub, Int.reduceAdd, Int.reduceMul, Int.reduceSub, Int.reduceNeg, Int.reduceToNat]; done) | (simp -implicitDefEqProofs (disch := first | omega | (simp only [St.set_n, St.up_n, List.length_cons, List.length_nil]; omega)) only [go_sem, Nat.reduceAdd, Nat.reduceMul, Nat.reduceSub, Int.reduceAdd, Int.reduceMul, Int.reduceSub, Int.reduceNeg, Int.reduceToNat]; rfl), ⟨by simp -implicitDefEqProofs (disch := first | omega | (simp only [St.set_n, St.up_n, List.length_cons, List.length_nil]; omega)) only [go_sem, Nat.reduceAdd, Nat.reduceMul, Nat.reduceSub, Int.reduceAdd, Int.reduceMul, Int.reduceSub, Int.reduceNeg, Int.reduceToNat], by simp -implicitDefEqProofs (disch := first | omega | (simp only [St.set_n, St.up_n, List.length_cons, List.length_nil]; omega)) only [go_sem, Nat.reduceAdd, Nat.reduceMul, Nat.reduceSub, Int.reduceAdd, Int.reduceMul, Int.reduceSub, Int.reduceNeg, Int.reduceToNat], by simp -implicitDefEqProofs (disch := first | omega | (simp only [St.set_n, St.up_n, List.length_cons, List.length_nil]; omega)) only [go_sem, Nat.reduceAdd, Nat.reduceMul, Nat.reduceSub, Int.reduceAdd, Int.reduceMul, Int.reduceSub, Int.reduceNeg, Int.reduceToNat], by simp -implicitDefEqProofs (disch := first | omega | (simp only [St.set_n, St.up_n, List.length_cons, List.length_nil]; omega)) only [go_sem, Nat.reduceAdd, Nat.reduceMul, Nat.reduceSub, Int.reduceAdd, Int.reduceMul, Int.reduceSub, Int.reduceNeg, Int.reduceToNat]⟩, ⟨⟨none, none, none, none, by simp -implicitDefEqProofs (disch := first | omega | (simp only [St.set_n, St.up_n, List.length_cons, List.length_nil]; omega)) only [go_sem, Nat.reduceAdd, Nat.reduceMul, Nat.reduceSub, Int.reduceAdd, Int.reduceMul, Int.reduceSub, Int.reduceNeg, Int.reduceToNat]⟩, fun x hx hxp => ?_, by first | (simp -implicitDefEqProofs (disch := first | omega | (simp only [St.set_n, St.up_n, List.length_cons, List.length_nil]; omega)) only [go_sem, Nat.reduceAdd, Nat.reduceMul, Nat.reduceSub, Int.reduceAdd, Int.reduceMul, Int.reduceSub, Int.reduceNeg, Int.reduceToNat]; done) | (simp -implicitDefEqProofs (disch := first | omega | (simp only [St.set_n, St.up_n, List.length_cons, List.length_nil]; omega)) only [go_sem, Nat.reduceAdd, Nat.reduceMul, Nat.reduceSub, Int.reduceAdd, Int.reduceMul, Int.reduceSub, Int.reduceNeg, Int.reduceToNat]; omega)⟩⟩
      have h2 := hk2' x hx hxp
      simp -implicitDefEqProofs (disch := first | omega | (simp only [St.set_n, St.up_n, List.length_cons, List.length_nil]; omega)) only [go_sem, Nat.reduceAdd, Nat.reduceMul, Nat.reduceSub, Int.reduceAdd, Int.reduceMul, Int.reduceSub, Int.reduceNeg, Int.reduceToNat, h2]
    rintro m e s hws ⟨i, hm, hi, q34, ⟨q0, q1, q5, hd⟩, ⟨⟨a0, a1, a2, a3, hc⟩, hk, hn⟩⟩
    refine SemS.wp fun _ => ?_
    by_cases hlt : (i : Int) < 4
    · have hi4 : i = 0 ∨ i = 1 ∨ i = 2 ∨ i = 3 := by omega
      rcases hi4 with rfl | rfl | rfl | rfl
      · have hcn := (hws.2 _ _ hc).2
        simp -implicitDefEqProofs (disch := first | omega | (simp only [St.set_n, St.up_n, List.length_cons, List.length_nil]; omega)) only [go_sem, Nat.reduceAdd, Nat.reduceMul, Nat.reduceSub, Int.reduceAdd, Int.reduceMul, Int.reduceSub, Int.reduceNeg, Int.reduceToNat, q34, q0, q1, q5]
        refine effD_plan [0, 0, 0, 4, 12, 1, 33, 127, 255] [0, 1, 2, 5, 6, 7] (.eag 0 (.eag 1 (.eag 2 (.eag 5 (.eag 6 (.alt 3 [] (.alt 4 [] (.eag 7 (.alt 8 [] .fin .stop)) .stop) .stop)))))) (by kernel_rfl) ?_
        simp -implicitDefEqProofs (disch := first | omega | (simp only [St.set_n, St.up_n, List.length_cons, List.length_nil]; omega)) only [go_sem, Nat.reduceAdd, Nat.reduceMul, Nat.reduceSub, Int.reduceAdd, Int.reduceMul, Int.reduceSub, Int.reduceNeg, Int.reduceToNat, q34, q0, q1, q5]
        refine callF_wf (cellS_new rfl fun hw4 => ?_)
        simp -implicitDefEqProofs (disch := first | omega | (simp only [St.set_n, St.up_n, List.length_cons, List.length_nil]; omega)) only [go_sem, Nat.reduceAdd, Nat.reduceMul, Nat.reduceSub, Int.reduceAdd, Int.reduceMul, Int.reduceSub, Int.reduceNeg, Int.reduceToNat, hc, q34]
        refine ⟨4 - (0 + 1), by omega, _, To.refl _ _, 0 + 1, rfl, by omega, by first | (simp -implicitDefEqProofs (disch := first | omega | (simp only [St.set_n, St.up_n, List.length_cons, List.length_nil]; omega)) only [go_sem, Nat.reduceAdd, Nat.reduceMul, Nat.reduceSub, Int.reduceAdd, Int.reduceMul, Int.reduceSub, Int.reduceNeg, Int.reduceToNat]; done) | (simp -implicitDefEqProofs (disch := first | omega | (simp only [St.set_n, St.up_n, List.length_cons, List.length_nil]; omega)) only [go_sem, Nat.reduceAdd, Nat.reduceMul, Nat.reduceSub, Int.reduceAdd, Int.reduceMul, Int.reduceSub, Int.reduceNeg, Int.reduceToNat]; rfl), ⟨by simp -implicitDefEqProofs (disch := first | omega | (simp only [St.set_n, St.up_n, List.length_cons, List.length_nil]; omega)) only [go_sem, Nat.reduceAdd, Nat.reduceMul, Nat.reduceSub, Int.reduceAdd, Int.reduceMul, Int.reduceSub, Int.reduceNeg, Int.reduceToNat, q0], by simp -implicitDefEqProofs (disch := first | omega | (simp only [St.set_n, St.up_n, List.length_cons, List.length_nil]; omega)) only [go_sem, Nat.reduceAdd, Nat.reduceMul, Nat.reduceSub, Int.reduceAdd, Int.reduceMul, Int.reduceSub, Int.reduceNeg, Int.reduceToNat, q1], by simp -implicitDefEqProofs (disch := first | omega | (simp only [St.set_n, St.up_n, List.length_cons, List.length_nil]; omega)) only [go_sem, Nat.reduceAdd, Nat.reduceMul, Nat.reduceSub, Int.reduceAdd, Int.reduceMul, Int.reduceSub, Int.reduceNeg, Int.reduceToNat, q5], by simp -implicitDefEqProofs (disch := first | omega | (simp only [St.set_n, St.up_n, List.length_cons, List.length_nil]; omega)) only [go_sem, Nat.reduceAdd, Nat.reduceMul, Nat.reduceSub, Int.reduceAdd, Int.reduceMul, Int.reduceSub, Int.reduceNeg, Int.reduceToNat, hd]⟩, ⟨⟨_, a1, a2, a3, by simp -implicitDefEqProofs (disch := first | omega | (simp only [St.set_n, St.up_n, List.length_cons, List.length_nil]; omega)) only [go_sem, Nat.reduceAdd, Nat.reduceMul, Nat.reduceSub, Int.reduceAdd, Int.reduceMul, Int.reduceSub, Int.reduceNeg, Int.reduceToNat, hc]; rfl⟩, fun x hx hxp => ?_, ?_⟩⟩
        · have h2 := hk x hx hxp
          simp -implicitDefEqProofs (disch := first | omega | (simp only [St.set_n, St.up_n, List.length_cons, List.length_nil]; omega)) only [go_sem, Nat.reduceAdd, Nat.reduceMul, Nat.reduceSub, Int.reduceAdd, Int.reduceMul, Int.reduceSub, Int.reduceNeg, Int.reduceToNat, h2]
        · simp only [St.up_n, St.set_n]; omega
      · have hcn := (hws.2 _ _ hc).2
        simp -implicitDefEqProofs (disch := first | omega | (simp only [St.set_n, St.up_n, List.length_cons, List.length_nil]; omega)) only [go_sem, Nat.reduceAdd, Nat.reduceMul, Nat.reduceSub, Int.reduceAdd, Int.reduceMul, Int.reduceSub, Int.reduceNeg, Int.reduceToNat, q34, q0, q1, q5]
        refine effD_plan [0, 0, 0, 4, 12, 1, 33, 127, 255] [0, 1, 2, 5, 6, 7] (.eag 0 (.eag 1 (.eag 2 (.eag 5 (.eag 6 (.alt 3 [] (.alt 4 [] (.eag 7 (.alt 8 [] .fin .stop)) .stop) .stop)))))) (by kernel_rfl) ?_
        simp -implicitDefEqProofs (disch := first | omega | (simp only [St.set_n, St.up_n, List.length_cons, List.length_nil]; omega)) only [go_sem, Nat.reduceAdd, Nat.reduceMul, Nat.reduceSub, Int.reduceAdd, Int.reduceMul, Int.reduceSub, Int.reduceNeg, Int.reduceToNat, q34, q0, q1, q5]
        refine callF_wf (cellS_new rfl fun hw4 => ?_)
        simp -implicitDefEqProofs (disch := first | omega | (simp only [St.set_n, St.up_n, List.length_cons, List.length_nil]; omega)) only [go_sem, Nat.reduceAdd, Nat.reduceMul, Nat.reduceSub, Int.reduceAdd, Int.reduceMul, Int.reduceSub, Int.reduceNeg, Int.reduceToNat, hc, q34]
        refine ⟨4 - (1 + 1), by omega, _, To.refl _ _, 1 + 1, rfl, by omega, by first | (simp -implicitDefEqProofs (disch := first | omega | (simp only [St.set_n, St.up_n, List.length_cons, List.length_nil]; omega)) only [go_sem, Nat.reduceAdd, Nat.reduceMul, Nat.reduceSub, Int.reduceAdd, Int.reduceMul, Int.reduceSub, Int.reduceNeg, Int.reduceToNat]; done) | (simp -implicitDefEqProofs (disch := first | omega | (simp only [St.set_n, St.up_n, List.length_cons, List.length_nil]; omega)) only [go_sem, Nat.reduceAdd, Nat.reduceMul, Nat.reduceSub, Int.reduceAdd, Int.reduceMul, Int.reduceSub, Int.reduceNeg, Int.reduceToNat]; rfl), ⟨by simp -implicitDefEqProofs (disch := first | omega | (simp only [St.set_n, St.up_n, List.length_cons, List.length_nil]; omega)) only [go_sem, Nat.reduceAdd, Nat.reduceMul, Nat.reduceSub, Int.reduceAdd, Int.reduceMul, Int.reduceSub, Int.reduceNeg, Int.reduceToNat, q0], by simp -implicitDefEqProofs (disch := first | omega | (simp only [St.set_n, St.up_n, List.length_cons, List.length_nil]; omega)) only [go_sem, Nat.reduceAdd, Nat.reduceMul, Nat.reduceSub, Int.reduceAdd, Int.reduceMul, Int.reduceSub, Int.reduceNeg, Int.reduceToNat, q1], by simp -implicitDefEqProofs (disch := first | omega | (simp only [St.set_n, St.up_n, List.length_cons, List.length_nil]; omega)) only [go_sem, Nat.reduceAdd, Nat.reduceMul, Nat.reduceSub, Int.reduceAdd, Int.reduceMul, Int.reduceSub, Int.reduceNeg, Int.reduceToNat, q5], by simp -implicitDefEqProofs (disch := first | omega | (simp only [St.set_n, St.up_n, List.length_cons, List.length_nil]; omega)) only [go_sem, Nat.reduceAdd, Nat.reduceMul, Nat.reduceSub, Int.reduceAdd, Int.reduceMul, Int.reduceSub, Int.reduceNeg, Int.reduceToNat, hd]⟩, ⟨⟨a0, _, a2, a3, by simp -implicitDefEqProofs (disch := first | omega | (simp only [St.set_n, St.up_n, List.length_cons, List.length_nil]; omega)) only [go_sem, Nat.reduceAdd, Nat.reduceMul, Nat.reduceSub, Int.reduceAdd, Int.reduceMul, Int.reduceSub, Int.reduceNeg, Int.reduceToNat, hc]; rfl⟩, fun x hx hxp => ?_, ?_⟩⟩
        · have h2 := hk x hx hxp
          simp -implicitDefEqProofs (disch := first | omega | (simp only [St.set_n, St.up_n, List.length_cons, List.length_nil]; omega)) only [go_sem, Nat.reduceAdd, Nat.reduceMul, Nat.reduceSub, Int.reduceAdd, Int.reduceMul, Int.reduceSub, Int.reduceNeg, Int.reduceToNat, h2]
        · simp only [St.up_n, St.set_n]; omega
      · have hcn := (hws.2 _ _ hc).2
        simp -implicitDefEqProofs (disch := first | omega | (simp only [St.set_n, St.up_n, List.length_cons, List.length_nil]; omega)) only [go_sem, Nat.reduceAdd, Nat.reduceMul, Nat.reduceSub, Int.reduceAdd, Int.reduceMul, Int.reduceSub, Int.reduceNeg, Int.reduceToNat, q34, q0, q1, q5]
        refine effD_plan [0, 0, 0, 4, 12, 1, 33, 127, 255] [0, 1, 2, 5, 6, 7] (.eag 0 (.eag 1 (.eag 2 (.eag 5 (.eag 6 (.alt 3 [] (.alt 4 [] (.eag 7 (.alt 8 [] .fin .stop)) .stop) .stop)))))) (by kernel_rfl) ?_
        simp -implicitDefEqProofs (disch := first | omega | (simp only [St.set_n, St.up_n, List.length_cons, List.length_nil]; omega)) only [go_sem, Nat.reduceAdd, Nat.reduceMul, Nat.reduceSub, Int.reduceAdd, Int.reduceMul, Int.reduceSub, Int.reduceNeg, Int.reduceToNat, q34, q0, q1, q5]
        refine callF_wf (cellS_new rfl fun hw4 => ?_)
        simp -implicitDefEqProofs (disch := first | omega | (simp only [St.set_n, St.up_n, List.length_cons, List.length_nil]; omega)) only [go_sem, Nat.reduceAdd, Nat.reduceMul, Nat.reduceSub, Int.reduceAdd, Int.reduceMul, Int.reduceSub, Int.reduceNeg, Int.reduceToNat, hc, q34]
        refine ⟨4 - (2 + 1), by omega, _, To.refl _ _, 2 + 1, rfl, by omega, by first | (simp -implicitDefEqProofs (disch := first | omega | (simp only [St.set_n, St.up_n, List.length_cons, List.length_nil]; omega)) only [go_sem, Nat.reduceAdd, Nat.reduceMul, Nat.reduceSub, Int.reduceAdd, Int.reduceMul, Int.reduceSub, Int.reduceNeg, Int.reduceToNat]; done) | (simp -implicitDefEqProofs (disch := first | omega | (simp only [St.set_n, St.up_n, List.length_cons, List.length_nil]; omega)) only [go_sem, Nat.reduceAdd, Nat.reduceMul, Nat.reduceSub, Int.reduceAdd, Int.reduceMul, Int.reduceSub, Int.reduceNeg, Int.reduceToNat]; rfl), ⟨by simp -implicitDefEqProofs (disch := first | omega | (simp only [St.set_n, St.up_n, List.length_cons, List.length_nil]; omega)) only [go_sem, Nat.reduceAdd, Nat.reduceMul, Nat.reduceSub, Int.reduceAdd, Int.reduceMul, Int.reduceSub, Int.reduceNeg, Int.reduceToNat, q0], by simp -implicitDefEqProofs (disch := first | omega | (simp only [St.set_n, St.up_n, List.length_cons, List.length_nil]; omega)) only [go_sem, Nat.reduceAdd, Nat.reduceMul, Nat.reduceSub, Int.reduceAdd, Int.reduceMul, Int.reduceSub, Int.reduceNeg, Int.reduceToNat, q1], by simp -implicitDefEqProofs (disch := first | omega | (simp only [St.set_n, St.up_n, List.length_cons, List.length_nil]; omega)) only [go_sem, Nat.reduceAdd, Nat.reduceMul, Nat.reduceSub, Int.reduceAdd, Int.reduceMul, Int.reduceSub, Int.reduceNeg, Int.reduceToNat, q5], by simp -implicitDefEqProofs (disch := first | omega | (simp only [St.set_n, St.up_n, List.length_cons, List.length_nil]; omega)) only [go_sem, Nat.reduceAdd, Nat.reduceMul, Nat.reduceSub, Int.reduceAdd, Int.reduceMul, Int.reduceSub, Int.reduceNeg, Int.reduceToNat, hd]⟩, ⟨⟨a0, a1, _, a3, by simp -implicitDefEqProofs (disch := first | omega | (simp only [St.set_n, St.up_n, List.length_cons, List.length_nil]; omega)) only [go_sem, Nat.reduceAdd, Nat.reduceMul, Nat.reduceSub, Int.reduceAdd, Int.reduceMul, Int.reduceSub, Int.reduceNeg, Int.reduceToNat, hc]; rfl⟩, fun x hx hxp => ?_, ?_⟩⟩
        · have h2 := hk x hx hxp
          simp -implicitDefEqProofs (disch := first | omega | (simp only [St.set_n, St.up_n, List.length_cons, List.length_nil]; omega)) only [go_sem, Nat.reduceAdd, Nat.reduceMul, Nat.reduceSub, Int.reduceAdd, Int.reduceMul, Int.reduceSub, Int.reduceNeg, Int.reduceToNat, h2]
        · simp only [St.up_n, St.set_n]; omega
      · have hcn := (hws.2 _ _ hc).2
        simp -implicitDefEqProofs (disch := first | omega | (simp only [St.set_n, St.up_n, List.length_cons, List.length_nil]; omega)) only [go_sem, Nat.reduceAdd, Nat.reduceMul, Nat.reduceSub, Int.reduceAdd, Int.reduceMul, Int.reduceSub, Int.reduceNeg, Int.reduceToNat, q34, q0, q1, q5]
        refine effD_plan [0, 0, 0, 4, 12, 1, 33, 127, 255] [0, 1, 2, 5, 6, 7] (.eag 0 (.eag 1 (.eag 2 (.eag 5 (.eag 6 (.alt 3 [] (.alt 4 [] (.eag 7 (.alt 8 [] .fin .stop)) .stop) .stop)))))) (by kernel_rfl) ?_
        simp -implicitDefEqProofs (disch := first | omega | (simp only [St.set_n, St.up_n, List.length_cons, List.length_nil]; omega)) only [go_sem, Nat.reduceAdd, Nat.reduceMul, Nat.reduceSub, Int.reduceAdd, Int.reduceMul, Int.reduceSub, Int.reduceNeg, Int.reduceToNat, q34, q0, q1, q5]
        refine callF_wf (cellS_new rfl fun hw4 => ?_)
        simp -implicitDefEqProofs (disch := first | omega | (simp only [St.set_n, St.up_n, List.length_cons, List.length_nil]; omega)) only [go_sem, Nat.reduceAdd, Nat.reduceMul, Nat.reduceSub, Int.reduceAdd, Int.reduceMul, Int.reduceSub, Int.reduceNeg, Int.reduceToNat, hc, q34]
        refine ⟨4 - (3 + 1), by omega, _, To.refl _ _, 3 + 1, rfl, by omega, by first | (simp -implicitDefEqProofs (disch := first | omega | (simp only [St.set_n, St.up_n, List.length_cons, List.length_nil]; omega)) only [go_sem, Nat.reduceAdd, Nat.reduceMul, Nat.reduceSub, Int.reduceAdd, Int.reduceMul, Int.reduceSub, Int.reduceNeg, Int.reduceToNat]; done) | (simp -implicitDefEqProofs (disch := first | omega | (simp only [St.set_n, St.up_n, List.length_cons, List.length_nil]; omega)) only [go_sem, Nat.reduceAdd, Nat.reduceMul, Nat.reduceSub, Int.reduceAdd, Int.reduceMul, Int.reduceSub, Int.reduceNeg, Int.reduceToNat]; rfl), ⟨by simp -implicitDefEqProofs (disch := first | omega | (simp only [St.set_n, St.up_n, List.length_cons, List.length_nil]; omega)) only [go_sem, Nat.reduceAdd, Nat.reduceMul, Nat.reduceSub, Int.reduceAdd, Int.reduceMul, Int.reduceSub, Int.reduceNeg, Int.reduceToNat, q0], by simp -implicitDefEqProofs (disch := first | omega | (simp only [St.set_n, St.up_n, List.length_cons, List.length_nil]; omega)) only [go_sem, Nat.reduceAdd, Nat.reduceMul, Nat.reduceSub, Int.reduceAdd, Int.reduceMul, Int.reduceSub, Int.reduceNeg, Int.reduceToNat, q1], by simp -implicitDefEqProofs (disch := first | omega | (simp only [St.set_n, St.up_n, List.length_cons, List.length_nil]; omega)) only [go_sem, Nat.reduceAdd, Nat.reduceMul, Nat.reduceSub, Int.reduceAdd, Int.reduceMul, Int.reduceSub, Int.reduceNeg, Int.reduceToNat, q5], by simp -implicitDefEqProofs (disch := first | omega | (simp only [St.set_n, St.up_n, List.length_cons, List.length_nil]; omega)) only [go_sem, Nat.reduceAdd, Nat.reduceMul, Nat.reduceSub, Int.reduceAdd, Int.reduceMul, Int.reduceSub, Int.reduceNeg, Int.reduceToNat, hd]⟩, ⟨⟨a0, a1, a2, _, by simp -implicitDefEqProofs (disch := first | omega | (simp only [St.set_n, St.up_n, List.length_cons, List.length_nil]; omega)) only [go_sem, Nat.reduceAdd, Nat.reduceMul, Nat.reduceSub, Int.reduceAdd, Int.reduceMul, Int.reduceSub, Int.reduceNeg, Int.reduceToNat, hc]; rfl⟩, fun x hx hxp => ?_, ?_⟩⟩
        · have h2 := hk x hx hxp
          simp -implicitDefEqProofs (disch := first | omega | (simp only [St.set_n, St.up_n, List.length_cons, List.length_nil]; omega)) only [go_sem, Nat.reduceAdd, Nat.reduceMul, Nat.reduceSub, Int.reduceAdd, Int.reduceMul, Int.reduceSub, Int.reduceNeg, Int.reduceToNat, h2]
        · simp only [St.up_n, St.set_n]; omega
    · simp -implicitDefEqProofs (disch := first | omega | (simp only [St.set_n, St.up_n, List.length_cons, List.length_nil]; omega)) only [go_sem, Nat.reduceAdd, Nat.reduceMul, Nat.reduceSub, Int.reduceAdd, Int.reduceMul, Int.reduceSub, Int.reduceNeg, Int.reduceToNat, q34, hlt, hd]
      exact ⟨_, To.refl _ _, ⟨by simp -implicitDefEqProofs (disch := first | omega | (simp only [St.set_n, St.up_n, List.length_cons, List.length_nil]; omega)) only [go_sem, Nat.reduceAdd, Nat.reduceMul, Nat.reduceSub, Int.reduceAdd, Int.reduceMul, Int.reduceSub, Int.reduceNeg, Int.reduceToNat, q0], by simp -implicitDefEqProofs (disch := first | omega | (simp only [St.set_n, St.up_n, List.length_cons, List.length_nil]; omega)) only [go_sem, Nat.reduceAdd, Nat.reduceMul, Nat.reduceSub, Int.reduceAdd, Int.reduceMul, Int.reduceSub, Int.reduceNeg, Int.reduceToNat, q1], by simp -implicitDefEqProofs (disch := first | omega | (simp only [St.set_n, St.up_n, List.length_cons, List.length_nil]; omega)) only [go_sem, Nat.reduceAdd, Nat.reduceMul, Nat.reduceSub, Int.reduceAdd, Int.reduceMul, Int.reduceSub, Int.reduceNeg, Int.reduceToNat, q5], by simp -implicitDefEqProofs (disch := first | omega | (simp only [St.set_n, St.up_n, List.length_cons, List.length_nil]; omega)) only [go_sem, Nat.reduceAdd, Nat.reduceMul, Nat.reduceSub, Int.reduceAdd, Int.reduceMul, Int.reduceSub, Int.reduceNeg, Int.reduceToNat, hd]⟩, ⟨⟨a0, a1, a2, a3, hc⟩, hk, hn⟩⟩
  clear hc2 hk2 hk2' hw1 hw2 hw3 hw2' hold
  rintro e s hws ⟨⟨q0, q1, q5, hd⟩, ⟨⟨a0, a1, a2, a3, hc⟩, hk, hn⟩⟩
  have hnr : max (min subs 8) 0 = (coreN subs : Int) := by unfold coreN; omega
  refine SemS.seq (fun e s => ∃ rr rb w, e.v 5 = .pointer (some ⟨τ.n, 0, none⟩) ∧ e.d = [] ∧ CnR τ τ.n σ.n k1 g (τ2.n + 1) (coreN subs) (roomN cap) s rr rb w) ?_ ?_
  · refine SemS.seqw fun _ => ?_
    simp -implicitDefEqProofs (disch := first | omega | (simp only [St.set_n, St.up_n, List.length_cons, List.length_nil]; omega)) only [go_sem, Nat.reduceAdd, Nat.reduceMul, Nat.reduceSub, Int.reduceAdd, Int.reduceMul, Int.reduceSub, Int.reduceNeg, Int.reduceToNat, q0, hnr]
    refine SemS.block (SemS.loop (fun m e s => ∃ (i : Nat) (rr rb : Nat → Nat) (w : Value), m = coreN subs - i ∧ i ≤ coreN subs ∧ e.v 48 = .int .i64 (coreN subs) ∧ e.v 49 = .int .i64 i ∧ CnF τ.n subs cap e ∧ CnR τ τ.n σ.n k1 g (τ2.n + 1) i (roomN cap) s rr rb w) (coreN subs) ?_ ?_)
    · refine ⟨0, fun _ => 0, fun _ => 0, .slice none 0 0, by omega, by omega, by first | (simp -implicitDefEqProofs (disch := first | omega | (simp only [St.set_n, St.up_n, List.length_cons, List.length_nil]; omega)) only [go_sem, Nat.reduceAdd, Nat.reduceMul, Nat.reduceSub, Int.reduceAdd, Int.reduceMul, Int.reduceSub, Int.reduceNeg, Int.reduceToNat]; done) | (simp -implicitDefEqProofs (disch := first | omega | (simp only [St.set_n, St.up_n, List.length_cons, List.length_nil]; omega)) only [go_sem, Nat.reduceAdd, Nat.reduceMul, Nat.reduceSub, Int.reduceAdd, Int.reduceMul, Int.reduceSub, Int.reduceNeg, Int.reduceToNat]; rfl), by first | (simp -implicitDefEqProofs (disch := first | omega | (simp only [St.set_n, St.up_n, List.length_cons, List.length_nil]; omega)) only [go_sem, Nat.reduceAdd, Nat.reduceMul, Nat.reduceSub, Int.reduceAdd, Int.reduceMul, Int.reduceSub, Int.reduceNeg, Int.reduceToNat]; done) | (simp -implicitDefEqProofs (disch := first | omega | (simp only [St.set_n, St.up_n, List.length_cons, List.length_nil]; omega)) only [go_sem, Nat.reduceAdd, Nat.reduceMul, Nat.reduceSub, Int.reduceAdd, Int.reduceMul, Int.reduceSub, Int.reduceNeg, Int.reduceToNat]; rfl), ⟨by simp -implicitDefEqProofs (disch := first | omega | (simp only [St.set_n, St.up_n, List.length_cons, List.length_nil]; omega)) only [go_sem, Nat.reduceAdd, Nat.reduceMul, Nat.reduceSub, Int.reduceAdd, Int.reduceMul, Int.reduceSub, Int.reduceNeg, Int.reduceToNat, q0], by simp -implicitDefEqProofs (disch := first | omega | (simp only [St.set_n, St.up_n, List.length_cons, List.length_nil]; omega)) only [go_sem, Nat.reduceAdd, Nat.reduceMul, Nat.reduceSub, Int.reduceAdd, Int.reduceMul, Int.reduceSub, Int.reduceNeg, Int.reduceToNat, q1], by simp -implicitDefEqProofs (disch := first | omega | (simp only [St.set_n, St.up_n, List.length_cons, List.length_nil]; omega)) only [go_sem, Nat.reduceAdd, Nat.reduceMul, Nat.reduceSub, Int.reduceAdd, Int.reduceMul, Int.reduceSub, Int.reduceNeg, Int.reduceToNat, q5], by simp -implicitDefEqProofs (disch := first | omega | (simp only [St.set_n, St.up_n, List.length_cons, List.length_nil]; omega)) only [go_sem, Nat.reduceAdd, Nat.reduceMul, Nat.reduceSub, Int.reduceAdd, Int.reduceMul, Int.reduceSub, Int.reduceNeg, Int.reduceToNat, hd]⟩, ⟨⟨_, _, _, _, hc⟩, hk, hn, Own.nil, fun j hj => by omega, fun j hj => by omega, fun b hb => by cases hb⟩⟩
    rintro m e s hws ⟨i, rr, rb, w, hm, hi, q48, q49, ⟨q0, q1, q5, hd⟩, ⟨⟨a0, a1, a2, a3, hc⟩, hk, hn, hO, hR, ho, hb⟩⟩
    refine SemS.wp fun _ => ?_
    obtain ⟨A, C, rfl, hC⟩ := hO.is
    by_cases hlt : (i : Int) < coreN subs
    · have hcn := (hws.2 _ _ hc).2
      simp -implicitDefEqProofs (disch := first | omega | (simp only [St.set_n, St.up_n, List.length_cons, List.length_nil]; omega)) only [go_sem, Nat.reduceAdd, Nat.reduceMul, Nat.reduceSub, Int.reduceAdd, Int.reduceMul, Int.reduceSub, Int.reduceNeg, Int.reduceToNat, q48, q49, q0, q1, q5, hlt, hc]
      refine effD_plan [0, 0, 2, 6, 14, 0, 32, 96, 224, 480, 1022, 2047, 4095, 8191] [0, 1, 2, 3, 4, 5, 6, 7, 11, 12] (.eag 0 (.eag 1 (.eag 2 (.eag 3 (.eagq 4 (.eag 5 (.eagq 6 (.eagq 7 (.alt 8 [4] (.alt 9 [4] (.alt 10 [] (.eag 11 (.eag 12 (.alt 13 [] .fin .stop))) .stop) .stop) .stop))))))))) (by kernel_rfl) ?_
      simp -implicitDefEqProofs (disch := first | omega | (simp only [St.set_n, St.up_n, List.length_cons, List.length_nil]; omega)) only [go_sem, Nat.reduceAdd, Nat.reduceMul, Nat.reduceSub, Int.reduceAdd, Int.reduceMul, Int.reduceSub, Int.reduceNeg, Int.reduceToNat, q48, q49, q0, q1, q5, hlt, hc]
      refine callF_wf (ring_new fun τ4 hIR hn4 hk4 hw4 => ?_)
      have hrn : ringN (max (min cap 16) 1) = roomN cap := by unfold ringN roomN; omega
      rw [hrn] at hIR
      have hc4 := (hk4 _ hcn).trans hc
      simp -implicitDefEqProofs (disch := first | omega | (simp only [St.set_n, St.up_n, List.length_cons, List.length_nil]; omega)) only [go_sem, Nat.reduceAdd, Nat.reduceMul, Nat.reduceSub, Int.reduceAdd, Int.reduceMul, Int.reduceSub, Int.reduceNeg, Int.reduceToNat, hc4]
      have hO4 : Own τ4 100 1 (rgP rr i) i (.slice A i C) := hO.keepR fun b o hb' ho' => by rw [hk4 b (hws.2 _ _ ho').2]; exact ho'
      have hiN : i < coreN subs := by omega
      have h8 : coreN subs ≤ 8 := by unfold coreN; omega
      refine appE hw4 hO4 se85 kd85 zr100 rfl (by omega) (ys := [.pointer (some ⟨s.n + 1, 0, none⟩)]) rfl rfl (by omega) fun A' C' s5 hC' o5 heq hb' hn5 hw5 => ?_
      have hcb : blk (.slice A i C) ≠ some τ.n := fun e => by have := (hb _ e).1; omega
      have hc5 := (heq _ (by omega) hcb).trans hc4
      simp -implicitDefEqProofs (disch := first | omega | (simp only [St.set_n, St.up_n, List.length_cons, List.length_nil]; omega)) only [go_sem, Nat.reduceAdd, Nat.reduceMul, Nat.reduceSub, Int.reduceAdd, Int.reduceMul, Int.reduceSub, Int.reduceNeg, Int.reduceToNat, hc5, q49]
      have hb6 : ∀ b, blk (.slice A' (i + 1) C') = some b → s.n + 2 ≤ b ∨ blk (.slice A i C) = some b := fun b h => (hb' b h).imp (fun h => by omega) id
      have hlow : ∀ j, j < i → rb j < s.n ∧ rr j < s.n := fun j hj => ⟨(hws.2 _ _ (hR j hj).row).2, (hws.2 _ _ (hR j hj).root).2⟩
      have k5 : ∀ c, c < s.n → c ≠ τ.n → blk (.slice A i C) ≠ some c → (s5.set τ.n (.raw (.cells #[.pointer (some ⟨σ.n, 0, none⟩), .pointer (some ⟨k1, 0, none⟩), .pointer (some ⟨g, 0, none⟩), .pointer (some ⟨τ2.n + 1, 0, none⟩), .pointer a0, .pointer a1, .pointer a2, .pointer a3, .slice A' (i + 1) C', .int .i64 0] 87 (0, 0)))).m c = s.m c := fun c h1 h2 h3 => by
        rw [St.set_m_ne _ _ h2, heq c (by omega) h3, hk4 c h1]
      refine ⟨coreN subs - (i + 1), by omega, _, To.refl _ _, i + 1, updL rr i (s.n + 1), updL rb i s.n, .slice A' (i + 1) C', rfl, by omega, by first | exact q48 | (simp -implicitDefEqProofs (disch := first | omega | (simp only [St.set_n, St.up_n, List.length_cons, List.length_nil]; omega)) only [go_sem, Nat.reduceAdd, Nat.reduceMul, Nat.reduceSub, Int.reduceAdd, Int.reduceMul, Int.reduceSub, Int.reduceNeg, Int.reduceToNat, q48]; done), by first | (simp; done) | (simp -implicitDefEqProofs (disch := first | omega | (simp only [St.set_n, St.up_n, List.length_cons, List.length_nil]; omega)) only [go_sem, Nat.reduceAdd, Nat.reduceMul, Nat.reduceSub, Int.reduceAdd, Int.reduceMul, Int.reduceSub, Int.reduceNeg, Int.reduceToNat]; simp; done), ⟨by simp -implicitDefEqProofs (disch := first | omega | (simp only [St.set_n, St.up_n, List.length_cons, List.length_nil]; omega)) only [go_sem, Nat.reduceAdd, Nat.reduceMul, Nat.reduceSub, Int.reduceAdd, Int.reduceMul, Int.reduceSub, Int.reduceNeg, Int.reduceToNat, q0], by simp -implicitDefEqProofs (disch := first | omega | (simp only [St.set_n, St.up_n, List.length_cons, List.length_nil]; omega)) only [go_sem, Nat.reduceAdd, Nat.reduceMul, Nat.reduceSub, Int.reduceAdd, Int.reduceMul, Int.reduceSub, Int.reduceNeg, Int.reduceToNat, q1], by simp -implicitDefEqProofs (disch := first | omega | (simp only [St.set_n, St.up_n, List.length_cons, List.length_nil]; omega)) only [go_sem, Nat.reduceAdd, Nat.reduceMul, Nat.reduceSub, Int.reduceAdd, Int.reduceMul, Int.reduceSub, Int.reduceNeg, Int.reduceToNat, q5], by simp -implicitDefEqProofs (disch := first | omega | (simp only [St.set_n, St.up_n, List.length_cons, List.length_nil]; omega)) only [go_sem, Nat.reduceAdd, Nat.reduceMul, Nat.reduceSub, Int.reduceAdd, Int.reduceMul, Int.reduceSub, Int.reduceNeg, Int.reduceToNat, hd]⟩, ⟨⟨a0, a1, a2, a3, by simp -implicitDefEqProofs (disch := first | omega | (simp only [St.set_n, St.up_n, List.length_cons, List.length_nil]; omega)) only [go_sem, Nat.reduceAdd, Nat.reduceMul, Nat.reduceSub, Int.reduceAdd, Int.reduceMul, Int.reduceSub, Int.reduceNeg, Int.reduceToNat]⟩, fun x hx hxp => ?_, by simp only [St.set_n]; omega, ?_, fun j hj => ?_, fun j hj => ?_, fun b hb1 => ?_⟩⟩
      · rw [k5 x (by omega) (by omega) (fun e => by have := (hb _ e).1; omega)]
        exact hk x hx hxp
      · rw [← rgP_succ]
        refine o5.keepR fun b o hb1 ho' => ?_
        rw [St.set_m_ne _ _ (fun e => ?_)]; exact ho'
        subst e
        rcases hb6 _ hb1 with h | h
        · omega
        · exact hcb h
      · by_cases e : j = i
        · subst e
          rw [updL_eq, updL_eq]
          refine isRing_keep hIR ?_ ?_
          · rw [St.set_m_ne _ _ (by omega), heq _ (by omega) fun e => ?_]
            have := hO.at_ e
            obtain ⟨o, ho'⟩ := this
            have := (hws.2 _ _ ho').2; omega
          · rw [St.set_m_ne _ _ (by omega), heq _ (by omega) fun e => ?_]
            have := hO.at_ e
            obtain ⟨o, ho'⟩ := this
            have := (hws.2 _ _ ho').2; omega
        · rw [updL_ne e, updL_ne e]
          have hji : j < i := by omega
          obtain ⟨l1, l2⟩ := hlow j hji
          obtain ⟨p1, p2, p3⟩ := ho j hji
          exact isRing_keep (hR j hji) (k5 _ l2 (by omega) fun e => ((hb _ e).2 j hji).1 rfl) (k5 _ l1 (by omega) fun e => ((hb _ e).2 j hji).2 rfl)
      · by_cases e : j = i
        · subst e
          rw [updL_eq, updL_eq]
          refine ⟨by omega, rfl, fun k hk => ?_⟩
          rw [updL_ne (by omega)]
          exact (hlow k hk).2
        · rw [updL_ne e, updL_ne e]
          have hji : j < i := by omega
          obtain ⟨p1, p2, p3⟩ := ho j hji
          exact ⟨p1, p2, fun k hk => by rw [updL_ne (by omega)]; exact p3 k hk⟩
      · have hbc : τ.n < b := (hb6 b hb1).elim (fun h => by omega) fun h => (hb b h).1
        refine ⟨hbc, fun j hj => ?_⟩
        by_cases e : j = i
        · subst e
          rw [updL_eq, updL_eq]
          rcases hb6 b hb1 with h | h
          · omega
          · obtain ⟨o, ho'⟩ := hO.at_ h
            have := (hws.2 _ _ ho').2; omega
        · rw [updL_ne e, updL_ne e]
          have hji : j < i := by omega
          rcases hb6 b hb1 with h | h
          · have := hlow j hji; omega
          · exact (hb b h).2 j hji
    · have hin : i = coreN subs := by omega
      subst hin
      simp -implicitDefEqProofs (disch := first | omega | (simp only [St.set_n, St.up_n, List.length_cons, List.length_nil]; omega)) only [go_sem, Nat.reduceAdd, Nat.reduceMul, Nat.reduceSub, Int.reduceAdd, Int.reduceMul, Int.reduceSub, Int.reduceNeg, Int.reduceToNat, q48, q49, hlt, hd]
      exact ⟨_, To.refl _ _, rr, rb, _, q5, ⟨⟨a0, a1, a2, a3, hc⟩, hk, hn, hO, hR, ho, hb⟩⟩
  rintro e s hws ⟨rr, rb, w, q5, hd, hR⟩
  refine SemS.wp fun _ => ?_
  simp -implicitDefEqProofs (disch := first | omega | (simp only [St.set_n, St.up_n, List.length_cons, List.length_nil]; omega)) only [go_sem, Nat.reduceAdd, Nat.reduceMul, Nat.reduceSub, Int.reduceAdd, Int.reduceMul, Int.reduceSub, Int.reduceNeg, Int.reduceToNat, q5, hd]
  refine ⟨_, To.refl _ _, hK ⟨τ.n, g, k1 + 1, σ.n, k1, τ2.n + 1⟩ rr rb w s ⟨⟨τ, hR⟩, by have := hR.n; omega, fun x y hx => ?_, ?_, ?_, ?_, by simp only; omega, by simp only; omega, by simp only; omega⟩ hws⟩
  · have h1 := hσ x y hx
    have h2 := (hwf.2 _ _ hx).2
    rw [hR.keep x (by omega) (by omega)]; exact h1
  · exact (hR.keep _ (by simp only; omega) (by simp only; omega)).trans hme
  · exact (hR.keep _ (by simp only; omega) (by simp only; omega)).trans hg1
  · exact (hR.keep _ (by simp only; omega) (by simp only; omega)).trans hg2
end
end Go.Proofs.YtdbgeahmhfocaaaGreat

/- A core in memory; its world. -/
namespace Go.Proofs.YtdbgeahmhfocaaaGreat
set_option linter.unusedSimpArgs false
set_option linter.unusedVariables false
set_option maxRecDepth 100000
open Go Go.RowKit
section
variable {B : World} {σ : St} {K : Value → St → Prop}
/-- A core in memory, with what its queues have. -/
structure CoreI (q : CB) (nr rn : Nat) (R : Nat → RgS) (rr rb : Nat → Nat) (w : Value) (s : St) : Prop where
  core : ∃ p ro a0 a1 a2 a3, s.m q.c = some (.raw (.cells #[.pointer (some ⟨q.e, 0, none⟩), .pointer (some ⟨p, 0, none⟩), .pointer (some ⟨q.g, 0, none⟩), .pointer (some ⟨ro, 0, none⟩), .pointer a0, .pointer a1, .pointer a2, .pointer a3, w, .int .i64 0] 87 (0, 0)))
  ep : s.m q.e = some (.comp (EpR { now := 0, pin := List.replicate 64 (-1), l0 := [], l1 := [], l2 := [] } q.e))
  gr : s.m q.g = some (.raw (.cells #[.slice (some ⟨q.b, 0, none⟩) (12 : Nat) (12 : Nat)] 138 (0, 0)))
  lk : s.m q.b = some (.raw (.cells (flat fLk (List.replicate 12 (0, 0, 0))).toArray 168 (0, 0)))
  le : q.e < q.c
  lb : q.b < q.c
  own : Own s 100 1 (rgP rr nr) nr w
  ring : ∀ j, j < nr → IsRing s (rr j) (rb j) rn (R j).L (R j).G (R j).D
  ord : ∀ j, j < nr → q.c < rb j ∧ rr j = rb j + 1 ∧ ∀ k, k < j → rr k < rb j
  hb : ∀ b, blk w = some b → q.c < b ∧ ∀ j, j < nr → b ≠ rr j ∧ b ≠ rb j
theorem NewI.coreI {q : CB} {nr rn : Nat} {s : St} {rr rb : Nat → Nat} {w : Value} (h : NewI σ q nr rn s rr rb w) : CoreI q nr rn (fun _ => ⟨[], 0, 0⟩) rr rb w s := by
  obtain ⟨τ, hr⟩ := h.r
  obtain ⟨a0, a1, a2, a3, hc⟩ := hr.core
  exact ⟨⟨_, _, a0, a1, a2, a3, hc⟩, h.ep, h.gr, h.lk, h.le.2, h.lb.2, hr.own, hr.ring, hr.ord, hr.hb⟩
theorem CoreI.keep {q : CB} {nr rn : Nat} {R : Nat → RgS} {s s' : St} {rr rb : Nat → Nat} {w : Value} (h : CoreI q nr rn R rr rb w s) (hk : ∀ c y, s.m c = some y → s'.m c = some y) : CoreI q nr rn R rr rb w s' := by
  obtain ⟨p, ro, a0, a1, a2, a3, hc⟩ := h.core
  exact ⟨⟨p, ro, a0, a1, a2, a3, hk _ _ hc⟩, hk _ _ h.ep, hk _ _ h.gr, hk _ _ h.lk, h.le, h.lb, h.own.keepR fun b o _ ho => hk _ _ ho, fun j hj => ⟨(h.ring j hj).ne, (h.ring j hj).pos, (h.ring j hj).big, (h.ring j hj).full, (h.ring j hj).low, hk _ _ (h.ring j hj).root, hk _ _ (h.ring j hj).row⟩, h.ord, h.hb⟩
theorem ne_of {s : St} {a b : Nat} {x y : HP} (h1 : s.m a = some x) (h2 : s.m b = some y) (hxy : x ≠ y) : a ≠ b := fun e => by
  rw [e, h2] at h1; exact hxy (Option.some.inj h1).symm
theorem rgP_get {rr : Nat → Nat} {n i : Nat} (hi : i < n) (sp : List Value) : (rgP rr n ++ sp)[i]? = some (.pointer (some ⟨rr i, 0, none⟩)) := by
  rw [List.getElem?_append_left (by simp [rgP]; exact hi)]
  simp [rgP, hi]
theorem ring_ofI {q : CB} {nr rn : Nat} {R : Nat → RgS} {s : St} {rr rb : Nat → Nat} {w : Value} (h : CoreI q nr rn R rr rb w s) (h8 : nr ≤ 8) {sub : Int} (hK : K (if 1 ≤ sub ∧ sub ≤ nr then .pointer (some ⟨rr (sub - 1).toNat, 0, none⟩) else .pointer none) s) : Fn Tryz.prog B 31 #[.pointer (some ⟨q.c, 0, none⟩), .int .i64 sub] s K := by
  obtain ⟨p, ro, a0, a1, a2, a3, o1⟩ := h.core
  obtain ⟨A, C, rfl, hC⟩ := h.own.is
  refine Fn.of is31 (by simp) fun hwf => ?_
  simp only [b31, Tryz.f31, Option.getD_some]
  by_cases h1 : sub < 1
  · rw [if_neg (by omega)] at hK
    simp -implicitDefEqProofs (disch := first | omega | (simp only [St.set_n, St.up_n, List.length_cons, List.length_nil]; omega)) only [go_sem, Nat.reduceAdd, Nat.reduceMul, Nat.reduceSub, Int.reduceAdd, Int.reduceMul, Int.reduceSub, Int.reduceNeg, Int.reduceToNat, o1, h1]
    exact hK
  · by_cases h2 : (nr : Int) < sub
    · rw [if_neg (by omega)] at hK
      simp -implicitDefEqProofs (disch := first | omega | (simp only [St.set_n, St.up_n, List.length_cons, List.length_nil]; omega)) only [go_sem, Nat.reduceAdd, Nat.reduceMul, Nat.reduceSub, Int.reduceAdd, Int.reduceMul, Int.reduceSub, Int.reduceNeg, Int.reduceToNat, o1, h1, h2]
      exact hK
    · obtain ⟨rk, c1, sp, e, hc1, o2, _, _⟩ := h.own.has (by omega)
      cases e
      obtain ⟨i, rfl⟩ : ∃ i : Nat, sub = (i : Int) + 1 := ⟨(sub - 1).toNat, by omega⟩
      have hi : i < nr := by omega
      have e1 : (i : Int) + 1 - 1 = i := by omega
      rw [if_pos (by omega), e1, Int.toNat_natCast] at hK
      have x0 := rgP_get (rr := rr) hi sp
      have e2 : (i : Int) < nr := by omega
      simp -implicitDefEqProofs (disch := first | omega | (simp only [St.set_n, St.up_n, List.length_cons, List.length_nil]; omega)) only [go_sem, Nat.reduceAdd, Nat.reduceMul, Nat.reduceSub, Int.reduceAdd, Int.reduceMul, Int.reduceSub, Int.reduceNeg, Int.reduceToNat, o1, h1, h2, e1, e2, o2, x0]
      exact hK
def putR (rn : Nat) (R : RgS) (m : Mg) : RgS := ⟨if R.L.length < rn then R.L ++ [m] else R.L, R.G, if R.L.length < rn then R.D else IntKind.i64.wrap (R.D + 1)⟩
theorem ring_put_nil {m : Mg} (hK : ∀ τ, σ.n ≤ τ.n → (∀ c y, σ.m c = some y → τ.m c = some y) → K (.bool false) τ) : Fn Tryz.prog B 32 #[.pointer none, .agg (fM m).toArray] σ K := by
  refine Fn.of is32 (by simp) fun hwf => ?_
  simp only [b32, Tryz.f32, Option.getD_some]
  simp -implicitDefEqProofs (disch := first | omega | (simp only [St.set_n, St.up_n, List.length_cons, List.length_nil]; omega)) only [go_sem, Nat.reduceAdd, Nat.reduceMul, Nat.reduceSub, Int.reduceAdd, Int.reduceMul, Int.reduceSub, Int.reduceNeg, Int.reduceToNat, fM]
  refine hK _ (by simp only [St.up_n]; omega) fun c y hc => ?_
  have := (hwf.2 _ _ hc).2
  simp -implicitDefEqProofs (disch := first | omega | (simp only [St.set_n, St.up_n, List.length_cons, List.length_nil]; omega)) only [go_sem, Nat.reduceAdd, Nat.reduceMul, Nat.reduceSub, Int.reduceAdd, Int.reduceMul, Int.reduceSub, Int.reduceNeg, Int.reduceToNat, hc]
theorem CoreI.one {q : CB} {nr rn : Nat} {R : Nat → RgS} {s s' : St} {rr rb : Nat → Nat} {w : Value} (h : CoreI q nr rn R rr rb w s) {i : Nat} (hi : i < nr) {R' : RgS} (hr : IsRing s' (rr i) (rb i) rn R'.L R'.G R'.D) (hk : ∀ c y, c ≠ rr i → c ≠ rb i → s.m c = some y → s'.m c = some y) : CoreI q nr rn (updL R i R') rr rb w s' := by
  obtain ⟨p, ro, a0, a1, a2, a3, hc⟩ := h.core
  obtain ⟨o1, o2, o3⟩ := h.ord i hi
  have h1 := h.ring i hi
  have hle := h.le
  refine ⟨⟨p, ro, a0, a1, a2, a3, hk _ _ (by omega) (by omega) hc⟩, hk _ _ (by omega) (by omega) h.ep, hk _ _ (ne_of h.gr h1.root (by simp)) (ne_of h.gr h1.row (by simp)) h.gr, hk _ _ (ne_of h.lk h1.root (by simp)) (ne_of h.lk h1.row (by simp)) h.lk, h.le, h.lb, h.own.keepR fun b o hb ho => hk _ _ ((h.hb b hb).2 i hi).1 ((h.hb b hb).2 i hi).2 ho, fun j hj => ?_, h.ord, h.hb⟩
  by_cases e : j = i
  · subst e
    rw [updL_eq]; exact hr
  · rw [updL_ne e]
    obtain ⟨p1, p2, p3⟩ := h.ord j hj
    have h2 := h.ring j hj
    have hlt : j < i ∨ i < j := by omega
    have hne : rr j ≠ rr i ∧ rr j ≠ rb i ∧ rb j ≠ rr i ∧ rb j ≠ rb i := by
      rcases hlt with hl | hl
      · have := o3 j hl; omega
      · have := p3 i hl; omega
    exact ⟨h2.ne, h2.pos, h2.big, h2.full, h2.low, hk _ _ hne.1 hne.2.1 h2.root, hk _ _ hne.2.2.1 hne.2.2.2 h2.row⟩
theorem put_of {q : CB} {nr rn : Nat} {R : Nat → RgS} {s : St} {rr rb : Nat → Nat} {w : Value} (h : CoreI q nr rn R rr rb w s) (h8 : nr ≤ 8) {sub : Int} {m : Mg} (hG : ∀ j, j < nr → (R j).G = 0)
    (hK : ∀ s', CoreI q nr rn (if 1 ≤ sub ∧ sub ≤ nr then updL R (sub - 1).toNat (putR rn (R (sub - 1).toNat) m) else R) rr rb w s' → s.n ≤ s'.n → (∀ c y, (∀ j, j < nr → c ≠ rr j ∧ c ≠ rb j) → s.m c = some y → s'.m c = some y) → s'.wf B → K (.bool (decide (1 ≤ sub ∧ sub ≤ nr) && decide ((R (sub - 1).toNat).L.length < rn))) s') :
    Fn Tryz.prog B 10 #[.pointer (some ⟨q.c, 0, none⟩), .int .i64 sub, .agg (fM m).toArray] s K := by
  refine Fn.of is10 (by simp) fun hwf => ?_
  simp only [b10, Tryz.f10, Option.getD_some]
  simp -implicitDefEqProofs (disch := first | omega | (simp only [St.set_n, St.up_n, List.length_cons, List.length_nil]; omega)) only [go_sem, Nat.reduceAdd, Nat.reduceMul, Nat.reduceSub, Int.reduceAdd, Int.reduceMul, Int.reduceSub, Int.reduceNeg, Int.reduceToNat, fM]
  refine effD_plan [0, 0, 3, 0, 15, 31] [0, 1, 3, 5] (.eag 0 (.eag 1 (.eagq 3 (.alt 2 [3] (.alt 4 [] (.eag 5 .fin) .stop) .stop)))) (by kernel_rfl) ?_
  simp -implicitDefEqProofs (disch := first | omega | (simp only [St.set_n, St.up_n, List.length_cons, List.length_nil]; omega)) only [go_sem, Nat.reduceAdd, Nat.reduceMul, Nat.reduceSub, Int.reduceAdd, Int.reduceMul, Int.reduceSub, Int.reduceNeg, Int.reduceToNat]
  have hk1 : ∀ c y, s.m c = some y → ((s.set s.n (.raw (.cells #[.string m.topic, .string m.pay, .bool m.kept] 40 (0, 0)))).up (s.n + 1)).m c = some y := fun c y hc => by
    have := (hwf.2 _ _ hc).2
    simp -implicitDefEqProofs (disch := first | omega | (simp only [St.set_n, St.up_n, List.length_cons, List.length_nil]; omega)) only [go_sem, Nat.reduceAdd, Nat.reduceMul, Nat.reduceSub, Int.reduceAdd, Int.reduceMul, Int.reduceSub, Int.reduceNeg, Int.reduceToNat, hc]
  have h1 := h.keep hk1
  refine callF_of (ring_ofI h1 h8 ?_)
  by_cases hs : 1 ≤ sub ∧ sub ≤ nr
  · obtain ⟨i, rfl⟩ : ∃ i : Nat, sub = (i : Int) + 1 := ⟨(sub - 1).toNat, by omega⟩
    have hi : i < nr := by omega
    have e1 : ((i : Int) + 1 - 1).toNat = i := by omega
    rw [if_pos hs, e1] at hK ⊢
    rw [decide_eq_true hs, Bool.true_and] at hK
    simp -implicitDefEqProofs (disch := first | omega | (simp only [St.set_n, St.up_n, List.length_cons, List.length_nil]; omega)) only [go_sem, Nat.reduceAdd, Nat.reduceMul, Nat.reduceSub, Int.reduceAdd, Int.reduceMul, Int.reduceSub, Int.reduceNeg, Int.reduceToNat]
    have e0 : (#[.string m.topic, .string m.pay, .bool m.kept] : Array Value) = (fM m).toArray := rfl
    rw [e0]
    have hGi := hG i hi
    have hrn := (h.ring i hi).big
    refine callF_wf (ring_put (x := m) (h1.ring i hi) (by omega) fun τ hr hn hk hwτ => ?_)
    simp only [St.up_n] at hn
    simp -implicitDefEqProofs (disch := first | omega | (simp only [St.set_n, St.up_n, List.length_cons, List.length_nil]; omega)) only [go_sem, Nat.reduceAdd, Nat.reduceMul, Nat.reduceSub, Int.reduceAdd, Int.reduceMul, Int.reduceSub, Int.reduceNeg, Int.reduceToNat]
    refine hK _ (CoreI.one (R' := putR rn (R i) m) h1 hi hr hk) (by omega) (fun c y hc hx => hk c y (hc i hi).1 (hc i hi).2 (hk1 c y hx)) hwτ
  · rw [if_neg hs] at hK ⊢
    rw [decide_eq_false hs, Bool.false_and] at hK
    simp -implicitDefEqProofs (disch := first | omega | (simp only [St.set_n, St.up_n, List.length_cons, List.length_nil]; omega)) only [go_sem, Nat.reduceAdd, Nat.reduceMul, Nat.reduceSub, Int.reduceAdd, Int.reduceMul, Int.reduceSub, Int.reduceNeg, Int.reduceToNat]
    have e0 : (#[.string m.topic, .string m.pay, .bool m.kept] : Array Value) = (fM m).toArray := rfl
    rw [e0]
    refine callF_wf (ring_put_nil fun τ hn hk hwτ => ?_)
    simp only [St.up_n] at hn
    simp -implicitDefEqProofs (disch := first | omega | (simp only [St.set_n, St.up_n, List.length_cons, List.length_nil]; omega)) only [go_sem, Nat.reduceAdd, Nat.reduceMul, Nat.reduceSub, Int.reduceAdd, Int.reduceMul, Int.reduceSub, Int.reduceNeg, Int.reduceToNat]
    exact hK _ (h1.keep hk) (by omega) (fun c y _ hx => hk c y (hk1 c y hx)) hwτ
end
end Go.Proofs.YtdbgeahmhfocaaaGreat

/- A core's world. -/
namespace Go.Proofs.YtdbgeahmhfocaaaGreat
set_option linter.unusedSimpArgs false
set_option linter.unusedVariables false
set_option maxRecDepth 100000
open Go Go.RowKit
section
variable {B : World} {σ : St} {K : Value → St → Prop}
open Classical in
/-- The world's memory: locks, log, queues; and what never changes. -/
noncomputable def coH (q : CB) (lp nr rn : Nat) (rr rb : Nat → Nat) (F : HF) (u : CU) : HF := fun c =>
  if c = q.b then some (.raw (.cells (flat fLk (lksA 12 u.l)).toArray 168 (0, 0)))
  else if c = lp then some (.comp (LogR u.log lp))
  else if h : ∃ i, i < nr ∧ rr i = c then some (.raw (.cells #[.slice (some ⟨rb (Classical.choose h), 0, none⟩) rn rn, .int .i64 ((u.rg (Classical.choose h)).G + (u.rg (Classical.choose h)).L.length : Nat), .int .i64 (u.rg (Classical.choose h)).G, .int .i64 (u.rg (Classical.choose h)).D] 149 (0, 0)))
  else if h : ∃ i, i < nr ∧ rb i = c then some (.raw (.cells (flat fSl (slots (u.rg (Classical.choose h)).L (u.rg (Classical.choose h)).G rn)).toArray 151 (0, 0)))
  else F c
structure CoD (q : CB) (lp nr : Nat) (rr rb : Nat → Nat) : Prop where
  blp : q.b ≠ lp
  hr : ∀ i, i < nr → rr i ≠ q.b ∧ rr i ≠ lp
  hb : ∀ i, i < nr → rb i ≠ q.b ∧ rb i ≠ lp
  ord : ∀ j, j < nr → rr j = rb j + 1 ∧ ∀ k, k < j → rr k < rb j
variable {q : CB} {lp nr rn : Nat} {rr rb : Nat → Nat} {F : HF}
theorem CoD.inj (hd : CoD q lp nr rr rb) {i j : Nat} (hi : i < nr) (hj : j < nr) (he : rr i = rr j) : i = j := by
  obtain ⟨a1, a2⟩ := hd.ord i hi
  obtain ⟨b1, b2⟩ := hd.ord j hj
  have hlt : i = j ∨ i < j ∨ j < i := by omega
  rcases hlt with h | h | h
  · exact h
  · have := b2 i h; omega
  · have := a2 j h; omega
theorem CoD.injb (hd : CoD q lp nr rr rb) {i j : Nat} (hi : i < nr) (hj : j < nr) (he : rb i = rb j) : i = j := by
  refine hd.inj hi hj ?_
  have := (hd.ord i hi).1
  have := (hd.ord j hj).1
  omega
theorem CoD.ne (hd : CoD q lp nr rr rb) {i j : Nat} (hi : i < nr) (hj : j < nr) : rr i ≠ rb j := by
  obtain ⟨a1, a2⟩ := hd.ord i hi
  obtain ⟨b1, b2⟩ := hd.ord j hj
  have hlt : i = j ∨ i < j ∨ j < i := by omega
  rcases hlt with rfl | h | h
  · omega
  · have := b2 i h; omega
  · have := a2 j h; omega
theorem coH_b {u : CU} : coH q lp nr rn rr rb F u q.b = some (.raw (.cells (flat fLk (lksA 12 u.l)).toArray 168 (0, 0))) := by unfold coH; rw [if_pos rfl]
theorem coH_lp (hd : CoD q lp nr rr rb) {u : CU} : coH q lp nr rn rr rb F u lp = some (.comp (LogR u.log lp)) := by unfold coH; rw [if_neg (Ne.symm hd.blp), if_pos rfl]
theorem coH_rr (hd : CoD q lp nr rr rb) {u : CU} {i : Nat} (hi : i < nr) : coH q lp nr rn rr rb F u (rr i) = some (.raw (.cells #[.slice (some ⟨rb i, 0, none⟩) rn rn, .int .i64 ((u.rg i).G + (u.rg i).L.length : Nat), .int .i64 (u.rg i).G, .int .i64 (u.rg i).D] 149 (0, 0))) := by
  have h : ∃ j, j < nr ∧ rr j = rr i := ⟨i, hi, rfl⟩
  have e : Classical.choose h = i := hd.inj (Classical.choose_spec h).1 hi (Classical.choose_spec h).2
  unfold coH
  rw [if_neg (hd.hr i hi).1, if_neg (hd.hr i hi).2, dif_pos h, e]
theorem coH_rb (hd : CoD q lp nr rr rb) {u : CU} {i : Nat} (hi : i < nr) : coH q lp nr rn rr rb F u (rb i) = some (.raw (.cells (flat fSl (slots (u.rg i).L (u.rg i).G rn)).toArray 151 (0, 0))) := by
  have h : ∃ j, j < nr ∧ rb j = rb i := ⟨i, hi, rfl⟩
  have h0 : ¬ ∃ j, j < nr ∧ rr j = rb i := fun ⟨j, hj, e⟩ => hd.ne hj hi e
  have e : Classical.choose h = i := hd.injb (Classical.choose_spec h).1 hi (Classical.choose_spec h).2
  unfold coH
  rw [if_neg (hd.hb i hi).1, if_neg (hd.hb i hi).2, dif_neg h0, dif_pos h, e]
theorem coH_F {u : CU} {c : Nat} (h1 : c ≠ q.b) (h2 : c ≠ lp) (h3 : ∀ i, i < nr → c ≠ rr i ∧ c ≠ rb i) : coH q lp nr rn rr rb F u c = F c := by
  unfold coH
  rw [if_neg h1, if_neg h2, dif_neg fun ⟨i, hi, e⟩ => (h3 i hi).1 e.symm, dif_neg fun ⟨i, hi, e⟩ => (h3 i hi).2 e.symm]
/-- What it tells, case by case. -/
theorem coH_cases (hd : CoD q lp nr rr rb) {u : CU} {c : Nat} {y : HP} (h : coH q lp nr rn rr rb F u c = some y) : c = q.b ∨ c = lp ∨ (∃ i, i < nr ∧ c = rr i) ∨ (∃ i, i < nr ∧ c = rb i) ∨ (F c = some y ∧ c ≠ q.b ∧ c ≠ lp ∧ ∀ i, i < nr → c ≠ rr i ∧ c ≠ rb i) := by
  by_cases h1 : c = q.b
  · exact .inl h1
  · by_cases h2 : c = lp
    · exact .inr (.inl h2)
    · by_cases h3 : ∃ i, i < nr ∧ c = rr i
      · exact .inr (.inr (.inl h3))
      · by_cases h4 : ∃ i, i < nr ∧ c = rb i
        · exact .inr (.inr (.inr (.inl h4)))
        · have h5 : ∀ i, i < nr → c ≠ rr i ∧ c ≠ rb i := fun i hi => ⟨fun e => h3 ⟨i, hi, e⟩, fun e => h4 ⟨i, hi, e⟩⟩
          rw [coH_F h1 h2 h5] at h
          exact .inr (.inr (.inr (.inr ⟨h, h1, h2, h5⟩)))
structure CoF (q : CB) (nr : Nat) (rr : Nat → Nat) (F : HF) : Prop where
  core : ∃ v0 v1 v3 v4 v5 v6 v7 A cap, F q.c = some (.raw (.cells #[v0, v1, .pointer (some ⟨q.g, 0, none⟩), v3, v4, v5, v6, v7, .slice A nr cap, .int .i64 0] 87 (0, 0))) ∧
    (nr ≠ 0 → ∃ rk cs ty, A = some ⟨rk, 0, none⟩ ∧ F rk = some (.raw (.cells cs ty (0, 0))) ∧ ∀ i, i < nr → cs[i]? = some (.pointer (some ⟨rr i, 0, none⟩)))
  gr : F q.g = some (.raw (.cells #[.slice (some ⟨q.b, 0, none⟩) (12 : Nat) (12 : Nat)] 138 (0, 0)))
  /-- It tells nothing of what changes. -/
  off : ∀ c, F c ≠ none → c ≠ q.b ∧ c ≠ lp ∧ ∀ i, i < nr → c ≠ rr i ∧ c ≠ rb i
theorem coYW (hd : CoD q lp nr rr rb) (n8 : nr ≤ 8) (rn1 : 1 ≤ rn) (rn2 : rn ≤ 1024) (hF : CoF (lp := lp) (rb := rb) q nr rr F) : YW ⟨q.c, q.g, q.b, lp⟩ nr rn rr rb (coH q lp nr rn rr rb F) := by
  have hof : ∀ {u : CU} {c : Nat} {y : HP}, F c = some y → coH q lp nr rn rr rb F u c = some y := fun {u c y} h => by
    obtain ⟨h1, h2, h3⟩ := hF.off c (by rw [h]; simp)
    rw [coH_F h1 h2 h3]; exact h
  obtain ⟨v0, v1, v3, v4, v5, v6, v7, A, cap, hc, hr⟩ := hF.core
  refine ⟨n8, rn1, rn2, ⟨v0, v1, v3, v4, v5, v6, v7, _, A, cap, fun u => hof hc, fun hne => ?_⟩, fun u => hof hF.gr, fun u => coH_b, fun u l c hcb => ?_, fun u => coH_lp hd, fun u x c hcl => ?_, fun u i hi => coH_rr hd hi, fun u i hi => coH_rb hd hi, fun u i x c hi h1 h2 => ?_, fun i hi => hd.ne hi hi⟩
  · obtain ⟨rk, cs, ty, e, h1, h2⟩ := hr hne
    exact ⟨rk, cs, ty, e, fun u => hof h1, h2⟩
  · unfold coH; simp only [if_neg hcb]
  · unfold coH; simp only [if_neg hcl]
  · by_cases e1 : c = q.b
    · subst e1; rw [coH_b, coH_b]
    · by_cases e2 : c = lp
      · subst e2; rw [coH_lp hd, coH_lp hd]
      · by_cases e3 : ∃ j, j < nr ∧ c = rr j
        · obtain ⟨j, hj, rfl⟩ := e3
          have : j ≠ i := fun e => h1 (by rw [e])
          rw [coH_rr hd hj, coH_rr hd hj]
          simp only [updL_ne this]
        · by_cases e4 : ∃ j, j < nr ∧ c = rb j
          · obtain ⟨j, hj, rfl⟩ := e4
            have : j ≠ i := fun e => h2 (by rw [e])
            rw [coH_rb hd hj, coH_rb hd hj]
            simp only [updL_ne this]
          · have h5 : ∀ i, i < nr → c ≠ rr i ∧ c ≠ rb i := fun i hi => ⟨fun e => e3 ⟨i, hi, e⟩, fun e => e4 ⟨i, hi, e⟩⟩
            rw [coH_F e1 e2 h5, coH_F e1 e2 h5]
/-- What never changes. -/
def coF (q : CB) (w : Value) (s : St) : HF := fun c => if c = q.c ∨ c = q.g ∨ c = q.e ∨ blk w = some c then s.m c else none
theorem CoreI.coD {R : Nat → RgS} {w : Value} {s : St} (h : CoreI q nr rn R rr rb w s) (hlp : s.m lp = none ∨ ∃ c, s.m lp = some (.comp c)) : CoD q lp nr rr rb := by
  have hx : ∀ {b : Nat} {o : _root_.Go.Obj}, s.m b = some (.raw o) → b ≠ lp := fun hb e => by
    subst e
    rcases hlp with h | ⟨c, h⟩
    · rw [hb] at h; cases h
    · rw [hb] at h; cases h
  exact ⟨hx h.lk, fun i hi => ⟨ne_of (h.ring i hi).root h.lk (by simp), hx (h.ring i hi).root⟩, fun i hi => ⟨ne_of (h.ring i hi).row h.lk (by simp), hx (h.ring i hi).row⟩, fun j hj => (h.ord j hj).2⟩
theorem CoreI.coF {R : Nat → RgS} {w : Value} {s : St} (h : CoreI q nr rn R rr rb w s) (hlp : s.m lp = none ∨ ∃ c, s.m lp = some (.comp c)) (hle : q.e ≠ lp) : CoF (lp := lp) (rb := rb) q nr rr (coF q w s) := by
  have hx : ∀ {b : Nat} {o : _root_.Go.Obj}, s.m b = some (.raw o) → b ≠ lp := fun hb e => by
    subst e
    rcases hlp with h | ⟨c, h⟩
    · rw [hb] at h; cases h
    · rw [hb] at h; cases h
  obtain ⟨p, ro, a0, a1, a2, a3, hc⟩ := h.core
  obtain ⟨A, C, rfl, hC⟩ := h.own.is
  have hcne : ∀ i, i < nr → q.c ≠ rr i ∧ q.c ≠ rb i := fun i hi => by have := h.ord i hi; omega
  refine ⟨⟨_, _, _, _, _, _, _, A, C, (if_pos (.inl rfl)).trans hc, fun hne => ?_⟩, (if_pos (.inr (.inl rfl))).trans h.gr, fun c hcn => ?_⟩
  · obtain ⟨rk, c1, sp, e, hc1, o2, _, _⟩ := h.own.has (by omega)
    cases e
    exact ⟨rk, _, _, rfl, (if_pos (.inr (.inr (.inr rfl)))).trans o2, fun i hi => by rw [List.getElem?_toArray]; exact rgP_get hi sp⟩
  · unfold Go.Proofs.YtdbgeahmhfocaaaGreat.coF at hcn
    split at hcn
    · rename_i hcc
      rcases hcc with rfl | rfl | rfl | hb
      · exact ⟨ne_of hc h.lk (by simp), hx hc, hcne⟩
      · exact ⟨ne_of h.gr h.lk (by simp), hx h.gr, fun i hi => ⟨ne_of h.gr (h.ring i hi).root (by simp), ne_of h.gr (h.ring i hi).row (by simp)⟩⟩
      · exact ⟨ne_of h.ep h.lk (by simp), hle, fun i hi => ⟨ne_of h.ep (h.ring i hi).root (by simp), ne_of h.ep (h.ring i hi).row (by simp)⟩⟩
      · obtain ⟨o, ho⟩ := h.own.at_ hb
        have := (h.hb c hb).1
        have := h.lb
        exact ⟨by omega, hx ho, fun i hi => (h.hb c hb).2 i hi⟩
    · exact absurd rfl hcn
end
end Go.Proofs.YtdbgeahmhfocaaaGreat

/- The document's example of a core: what the run does. -/
namespace Go.Proofs.YtdbgeahmhfocaaaGreat
set_option linter.unusedSimpArgs false
set_option linter.unusedVariables false
set_option maxRecDepth 100000
open Go Go.RowKit
def awM : Mg := ⟨⟨#[97]⟩, ⟨#[120]⟩, false⟩
def awO : COp := ⟨4, 1, ⟨#[]⟩, ⟨#[]⟩, false⟩
def awR : Nat → RgS := updL (fun _ => ⟨[], 0, 0⟩) 0 (putR 2 ⟨[], 0, 0⟩ awM)
def awU : CU := ⟨fun _ => (0, 0, 0), ⟨[], 0⟩, awR⟩
def awA0 : CAn := ⟨0, 0, 0, ⟨#[97]⟩, ⟨#[120]⟩, false⟩
def awL : LS := ⟨[⟨0, 0, awO, awA0, 1, 2⟩, ⟨0, 1, awO, anE 7, 3, 4⟩], 4⟩
section
variable {B : World} {H : CU → HF}
def awX : CU × (Nat → List CA) := (awU, updL (fun _ => []) 0 [.bg awO, .bg awO])
def orb (B : World) (H : CU → HF) : Nat → CU × (Nat → List CA)
  | 0 => awX
  | k + 1 => (lgTr (L := cL (B := B) 1 2 H) (orb B H k) 0).1
def endB (S : LS) (j : Nat) : Bool := decide (S.now ≤ 1000000) && decide (S.l.length ≤ 100000) && match S.l[j]? with
  | some c => decide (c.to = 0)
  | none => false
theorem endB_ok {S : LS} {j : Nat} (h : endB S j = true) : EndOk S j := by
  unfold endB at h
  simp only [Bool.and_eq_true, decide_eq_true_eq] at h
  obtain ⟨⟨h1, h2⟩, h3⟩ := h
  refine ⟨⟨h1, h2⟩, ?_⟩
  cases hx : S.l[j]? with
  | none => rw [hx] at h3; cases h3
  | some c => rw [hx] at h3; exact ⟨c, rfl, by simpa using h3⟩
def preB (u : CU) : CA → Bool
  | .bg _ => decide (u.log.now ≤ 1000000) && decide (u.log.l.length ≤ 100000)
  | .lk _ => true
  | .fr _ => true
  | .po i j _ => decide ((u.rg i).L.length ≤ 2) && decide ((u.rg i).G ≤ 1000000) && endB u.log j
  | .fe _ j _ => endB u.log j
  | .an j => endB u.log j
theorem preB_ok {t : Nat} {u : CU} {a : CA} (h : preB u a = true) : preC 2 t u a := by
  cases a with
  | bg op => simp only [preB, Bool.and_eq_true, decide_eq_true_eq] at h; exact ⟨h.1, h.2⟩
  | lk i => trivial
  | fr i => trivial
  | po i j d => simp only [preB, Bool.and_eq_true, decide_eq_true_eq] at h; exact ⟨⟨h.1.1, h.1.2⟩, endB_ok h.2⟩
  | fe i j a => exact endB_ok h
  | an j => exact endB_ok h
def okB (B : World) (H : CU → HF) (k : Nat) : Bool := match (orb B H k).2 0 with
  | [] => true
  | a :: _ => preB (orb B H k).1 a
theorem ok_all : (List.range 9).all (okB B H) = true := by kernel_rfl
theorem orb_end : (orb B H 8).2 0 = [] := by kernel_rfl
def AwG (B : World) (H : CU → HF) (x : CU × (Nat → List CA)) : Prop := ∃ k, k ≤ 8 ∧ x = orb B H k
theorem aw_pre : ∀ (x : CU × (Nat → List CA)) t a r, AwG B H x → t < 1 → x.2 t = a :: r → preC 2 t x.1 a := by
  rintro x t a r ⟨k, hk, rfl⟩ ht hx
  obtain rfl : t = 0 := by omega
  have h := List.all_eq_true.1 (ok_all (B := B) (H := H)) k (List.mem_range.2 (by omega))
  unfold okB at h
  rw [hx] at h
  exact preB_ok h
theorem aw_step : ∀ (x : CU × (Nat → List CA)) t, AwG B H x → t < 1 → x.2 t ≠ [] → AwG B H (lgTr (L := cL (B := B) 1 2 H) x t).1 := by
  rintro x t ⟨k, hk, rfl⟩ ht hx
  obtain rfl : t = 0 := by omega
  by_cases h8 : k = 8
  · subst h8
    exact absurd orb_end hx
  · exact ⟨k + 1, by omega, rfl⟩
abbrev awS (B : World) (H : CU → HF) : Sys B := lgSys (cL (B := B) 1 2 H) 1 (AwG B H) aw_pre aw_step
theorem awr : (Sys.loopA (Y := awS B H) 70000 (Sys.picksA ⟨awX, [], 0⟩ [])).2 = 0 ∧
    (Sys.loopA (Y := awS B H) 70000 (Sys.picksA ⟨awX, [], 0⟩ [])).1.x.1.log = awL := ⟨by kernel_rfl, by kernel_rfl⟩
end
end Go.Proofs.YtdbgeahmhfocaaaGreat

/- The document's example of a core: the walk. -/
namespace Go.Proofs.YtdbgeahmhfocaaaGreat
set_option linter.unusedSimpArgs false
set_option linter.unusedVariables false
set_option maxRecDepth 100000
open Go Go.RowKit
section
variable {B : World} {σ : St} {K : Value → St → Prop}
theorem coI0 {q : CB} {lp nr rn : Nat} {R : Nat → RgS} {rr rb : Nat → Nat} {w : Value} {s : St} (h : CoreI q nr rn R rr rb w s) (hl : s.m lp = some (.comp (LogR ⟨[], 0⟩ lp))) (hlp : q.c < lp)
    (he : σ.n ≤ q.e) (hg : σ.n ≤ q.g) (hb : σ.n ≤ q.b) (old : ∀ c y, σ.m c = some y → s.m c = some y) (hn : σ.n ≤ s.n) : OW σ (coH q lp nr rn rr rb (coF q w s)) ⟨fun _ => (0, 0, 0), ⟨[], 0⟩, R⟩ s := by
  have hd := h.coD (.inr ⟨_, hl⟩)
  have hle := h.le
  refine ⟨fun c y hc => ?_, old, hn⟩
  rcases coH_cases hd hc with rfl | rfl | ⟨i, hi, rfl⟩ | ⟨i, hi, rfl⟩ | ⟨hF, h1, h2, h3⟩
  · rw [coH_b] at hc
    refine ⟨h.lk.trans ?_, by omega⟩
    rw [← hc]; rfl
  · rw [coH_lp hd] at hc
    exact ⟨hl.trans hc, by omega⟩
  · rw [coH_rr hd hi] at hc
    have := h.ord i hi
    exact ⟨(h.ring i hi).root.trans hc, by omega⟩
  · rw [coH_rb hd hi] at hc
    have := h.ord i hi
    exact ⟨(h.ring i hi).row.trans hc, by omega⟩
  · unfold Go.Proofs.YtdbgeahmhfocaaaGreat.coF at hF
    split at hF
    · rename_i hcc
      refine ⟨hF, ?_⟩
      rcases hcc with rfl | rfl | rfl | hb'
      · omega
      · omega
      · omega
      · have := (h.hb c hb').1; omega
    · cases hF
theorem fOp_len (o : COp) : (fOp o).length = 5 := rfl
theorem opsV_flat {L : Lg B} {h : HF} (ops : List COp) {b cap : Nat} {sp : List Value} {ty : TypeId} (hm : ∀ G u s, Env L h G u s → s.m b = some (.raw (.cells (flat fOp ops ++ sp).toArray ty (0, 0)))) (hc : ops.length ≤ cap) : OpsV L h (.slice (some ⟨b, 0, none⟩) ops.length cap) ops := by
  refine ⟨⟨_, cap, rfl, hc, fun _ => ⟨b, 0, _, ty, rfl, hm, fun j op hj k v hv => ?_⟩⟩⟩
  rw [Nat.zero_add, List.getElem?_toArray]
  exact flat_get fOp_len ops sp j op k v hj hv
theorem aw_lit {d : Option Tmp} {K : Fr → St → Prop} {e : Fr} {s : St} (h : K (e.put d (.slice (some ⟨s.n, 0, none⟩) 2 2)) ((s.set s.n (.raw (.cells (flat fOp [awO, awO]).toArray 48 (0, 0)))).up (s.n + 1))) :
    bslK Tryz.prog 46 2 [(0, .agg #[.int .i64 4, .int .i64 1, .string ⟨#[]⟩, .string ⟨#[]⟩, .bool false]), (1, .agg #[.int .i64 4, .int .i64 1, .string ⟨#[]⟩, .string ⟨#[]⟩, .bool false])] d K e s := by
  unfold bslK bsl bindK
  refine ⟨_, se46, _, zr48, by omega, (flat fOp [awO, awO]).toArray, by kernel_rfl, h⟩
set_option maxHeartbeats 4000000 in
theorem awake22 (hK : ∀ k, σ.n ≤ k → K (.bool true) (σ.up k)) : Fn Tryz.prog B 5 #[] σ K := by
  refine Fn.ofS is5 (by simp) fun hwf => ?_
  have hB := hwf.1
  simp only [b5, Tryz.f5, Option.getD_some]
  refine SemS.seqw fun _ => ?_
  simp -implicitDefEqProofs (disch := first | omega | (simp only [St.set_n, St.up_n, List.length_cons, List.length_nil]; omega)) only [go_sem, Nat.reduceAdd, Nat.reduceMul, Nat.reduceSub, Int.reduceAdd, Int.reduceMul, Int.reduceSub, Int.reduceNeg, Int.reduceToNat]
  refine SemS.seqw fun _ => ?_
  simp -implicitDefEqProofs (disch := first | omega | (simp only [St.set_n, St.up_n, List.length_cons, List.length_nil]; omega)) only [go_sem, Nat.reduceAdd, Nat.reduceMul, Nat.reduceSub, Int.reduceAdd, Int.reduceMul, Int.reduceSub, Int.reduceNeg, Int.reduceToNat]
  refine callF_wf (core_new fun q rr rb w τ hNew hwτ _ => ?_)
  have hcn : coreN 1 = 1 := rfl
  have hrn : roomN 2 = 2 := rfl
  rw [hcn, hrn] at hNew
  have hC := hNew.coreI
  simp -implicitDefEqProofs (disch := first | omega | (simp only [St.set_n, St.up_n, List.length_cons, List.length_nil]; omega)) only [go_sem, Nat.reduceAdd, Nat.reduceMul, Nat.reduceSub, Int.reduceAdd, Int.reduceMul, Int.reduceSub, Int.reduceNeg, Int.reduceToNat]
  refine SemS.seqw fun _ => ?_
  simp -implicitDefEqProofs (disch := first | omega | (simp only [St.set_n, St.up_n, List.length_cons, List.length_nil]; omega)) only [go_sem, Nat.reduceAdd, Nat.reduceMul, Nat.reduceSub, Int.reduceAdd, Int.reduceMul, Int.reduceSub, Int.reduceNeg, Int.reduceToNat]
  have e0 : (#[.string ⟨#[97]⟩, .string ⟨#[120]⟩, .bool false] : Array Value) = (fM awM).toArray := rfl
  rw [e0]
  refine callF_wf (put_of hC (by omega) (sub := 1) (fun j hj => rfl) fun s1 hC1 hn1 hk1 hw1 _ => ?_)
  have e1 : (if (1 : Int) ≤ 1 ∧ (1 : Int) ≤ (1 : Nat) then updL (fun _ => (⟨[], 0, 0⟩ : RgS)) ((1 : Int) - 1).toNat (putR 2 ⟨[], 0, 0⟩ awM) else fun _ => ⟨[], 0, 0⟩) = awR := rfl
  rw [e1] at hC1
  simp -implicitDefEqProofs (disch := first | omega | (simp only [St.set_n, St.up_n, List.length_cons, List.length_nil]; omega)) only [go_sem, Nat.reduceAdd, Nat.reduceMul, Nat.reduceSub, Int.reduceAdd, Int.reduceMul, Int.reduceSub, Int.reduceNeg, Int.reduceToNat]
  refine SemS.seqw fun _ => ?_
  simp -implicitDefEqProofs (disch := first | omega | (simp only [St.set_n, St.up_n, List.length_cons, List.length_nil]; omega)) only [go_sem, Nat.reduceAdd, Nat.reduceMul, Nat.reduceSub, Int.reduceAdd, Int.reduceMul, Int.reduceSub, Int.reduceNeg, Int.reduceToNat]
  refine callF_wf (log_new fun k hk hwl => ?_)
  simp -implicitDefEqProofs (disch := first | omega | (simp only [St.set_n, St.up_n, List.length_cons, List.length_nil]; omega)) only [go_sem, Nat.reduceAdd, Nat.reduceMul, Nat.reduceSub, Int.reduceAdd, Int.reduceMul, Int.reduceSub, Int.reduceNeg, Int.reduceToNat]
  refine SemS.seqw fun _ => ?_
  simp -implicitDefEqProofs (disch := first | omega | (simp only [St.set_n, St.up_n, List.length_cons, List.length_nil]; omega)) only [go_sem, Nat.reduceAdd, Nat.reduceMul, Nat.reduceSub, Int.reduceAdd, Int.reduceMul, Int.reduceSub, Int.reduceNeg, Int.reduceToNat]
  refine aw_lit ?_
  have hk2 : ∀ c y, s1.m c = some y → ((s1.set s1.n (.comp (LogR ⟨[], 0⟩ s1.n))).up k).m c = some y := fun c y hx => by
    have := (hw1.2 _ _ hx).2
    simp -implicitDefEqProofs (disch := first | omega | (simp only [St.set_n, St.up_n, List.length_cons, List.length_nil]; omega)) only [go_sem, Nat.reduceAdd, Nat.reduceMul, Nat.reduceSub, Int.reduceAdd, Int.reduceMul, Int.reduceSub, Int.reduceNeg, Int.reduceToNat, hx]
  have hml : ((s1.set s1.n (.comp (LogR ⟨[], 0⟩ s1.n))).up k).m s1.n = some (.comp (LogR ⟨[], 0⟩ s1.n)) := by simp -implicitDefEqProofs (disch := first | omega | (simp only [St.set_n, St.up_n, List.length_cons, List.length_nil]; omega)) only [go_sem, Nat.reduceAdd, Nat.reduceMul, Nat.reduceSub, Int.reduceAdd, Int.reduceMul, Int.reduceSub, Int.reduceNeg, Int.reduceToNat]
  have hn2 : ((s1.set s1.n (.comp (LogR ⟨[], 0⟩ s1.n))).up k).n = k := rfl
  simp -implicitDefEqProofs (disch := first | omega | (simp only [St.set_n, St.up_n, List.length_cons, List.length_nil]; omega)) only [go_sem, Nat.reduceAdd, Nat.reduceMul, Nat.reduceSub, Int.reduceAdd, Int.reduceMul, Int.reduceSub, Int.reduceNeg, Int.reduceToNat]
  have hk3 : ∀ c, c < k → (((s1.set s1.n (.comp (LogR ⟨[], 0⟩ s1.n))).set k (.raw (.cells (flat fOp [awO, awO]).toArray 48 (0, 0)))).up (k + 1)).m c = ((s1.set s1.n (.comp (LogR ⟨[], 0⟩ s1.n))).up k).m c := fun c hc => by simp -implicitDefEqProofs (disch := first | omega | (simp only [St.set_n, St.up_n, List.length_cons, List.length_nil]; omega)) only [go_sem, Nat.reduceAdd, Nat.reduceMul, Nat.reduceSub, Int.reduceAdd, Int.reduceMul, Int.reduceSub, Int.reduceNeg, Int.reduceToNat]
  have hw3 : (((s1.set s1.n (.comp (LogR ⟨[], 0⟩ s1.n))).set k (.raw (.cells (flat fOp [awO, awO]).toArray 48 (0, 0)))).up (k + 1)).wf B := set_wf1 (y := .raw (.cells (flat fOp [awO, awO]).toArray 48 (0, 0))) hwl
  have hmo : (((s1.set s1.n (.comp (LogR ⟨[], 0⟩ s1.n))).set k (.raw (.cells (flat fOp [awO, awO]).toArray 48 (0, 0)))).up (k + 1)).m k = some (.raw (.cells (flat fOp [awO, awO]).toArray 48 (0, 0))) := by simp -implicitDefEqProofs (disch := first | omega | (simp only [St.set_n, St.up_n, List.length_cons, List.length_nil]; omega)) only [go_sem, Nat.reduceAdd, Nat.reduceMul, Nat.reduceSub, Int.reduceAdd, Int.reduceMul, Int.reduceSub, Int.reduceNeg, Int.reduceToNat]
  have hn3 : (((s1.set s1.n (.comp (LogR ⟨[], 0⟩ s1.n))).set k (.raw (.cells (flat fOp [awO, awO]).toArray 48 (0, 0)))).up (k + 1)).n = k + 1 := rfl
  generalize (((s1.set s1.n (.comp (LogR ⟨[], 0⟩ s1.n))).set k (.raw (.cells (flat fOp [awO, awO]).toArray 48 (0, 0)))).up (k + 1)) = s3 at hk3 hw3 hmo hn3 ⊢
  generalize ((s1.set s1.n (.comp (LogR ⟨[], 0⟩ s1.n))).up k) = s2 at hk2 hml hn2 hk3 hwl
  have hcl : q.c < s1.n := by obtain ⟨p, ro, a0, a1, a2, a3, hc⟩ := hC1.core; exact (hw1.2 _ _ hc).2
  have hlow : ∀ j, j < 1 → ∀ c y, σ.m c = some y → c ≠ rr j ∧ c ≠ rb j := fun j hj c y hx => by
    have := hC.ord j hj
    have := (hwf.2 _ _ hx).2
    have := hNew.le
    omega
  have hOW := coI0 (σ := σ) (hC1.keep hk2) hml hcl hNew.le.1 hNew.lg.1 hNew.lb.1 (fun c y hx => hk2 _ _ (hk1 c y (fun j hj => hlow j hj c y hx) (hNew.keep c y hx))) (by have := hNew.n; omega)
  have hYW := coYW (rn := 2) ((hC1.keep hk2).coD (lp := s1.n) (.inr ⟨_, hml⟩)) (by omega) (by omega) (by omega) ((hC1.keep hk2).coF (.inr ⟨_, hml⟩) (by have := hC1.le; omega))
  generalize coH q s1.n 1 2 rr rb (coF q w s2) = H at hOW hYW
  have hI := OW.lgi (B := B) (ex := exC 1) (pre := preC 2) hOW
  obtain ⟨G', hG', hE, hfin⟩ := hI.fork hwl (fun c hc => hk3 c (by omega)) (by omega) hw3
  have hops : OpsV (cL (B := B) 1 2 H) (grow noH s2 s3) (.slice (some ⟨k, 0, none⟩) 2 2) [awO, awO] := by
    refine opsV_flat [awO, awO] (sp := []) (cap := 2) (ty := 48) (fun G u s he => ?_) (by simp)
    rw [List.append_nil]; exact he.sub _ _ (gro (by omega) hmo)
  refine callF_of (thread_of hYW (t := 0) (by omega) [awO, awO] _ G' _ s3 _ _ hops hE fun v s4 ha hw4 => ?_)
  have hI4 := hfin _ _ _ _ ha
  have hvS := hI4.stepV (v := v) (by simp)
  simp -implicitDefEqProofs (disch := first | omega | (simp only [St.set_n, St.up_n, List.length_cons, List.length_nil]; omega)) only [go_sem, Nat.reduceAdd, Nat.reduceMul, Nat.reduceSub, Int.reduceAdd, Int.reduceMul, Int.reduceSub, Int.reduceNeg, Int.reduceToNat, hvS.one.1, hvS.one.2]
  have hk5 : ∀ c y, s4.m c = some y → ((s4.set s4.n (.raw (.cells #[v] 50 (0, 0)))).up (s4.n + 1)).m c = some y := fun c y hx => by
    have := (hw4.2 _ _ hx).2
    simp -implicitDefEqProofs (disch := first | omega | (simp only [St.set_n, St.up_n, List.length_cons, List.length_nil]; omega)) only [go_sem, Nat.reduceAdd, Nat.reduceMul, Nat.reduceSub, Int.reduceAdd, Int.reduceMul, Int.reduceSub, Int.reduceNeg, Int.reduceToNat, hx]
  have hm5 : ((s4.set s4.n (.raw (.cells #[v] 50 (0, 0)))).up (s4.n + 1)).m s4.n = some (.raw (.cells [v].toArray 50 (0, 0))) := by simp -implicitDefEqProofs (disch := first | omega | (simp only [St.set_n, St.up_n, List.length_cons, List.length_nil]; omega)) only [go_sem, Nat.reduceAdd, Nat.reduceMul, Nat.reduceSub, Int.reduceAdd, Int.reduceMul, Int.reduceSub, Int.reduceNeg, Int.reduceToNat]
  have hn5 : s4.n < ((s4.set s4.n (.raw (.cells #[v] 50 (0, 0)))).up (s4.n + 1)).n := by simp only [St.up_n]; omega
  generalize (s4.set s4.n (.raw (.cells #[v] 50 (0, 0)))).up (s4.n + 1) = s5 at hk5 hm5 hn5 ⊢
  have hI5 := LgI.keep hI4 hk5 (by omega)
  obtain ⟨R, hR⟩ : ∃ R, Sys.loopA (Y := awS B H) 70000 (Sys.picksA ⟨awX, [], 0⟩ []) = R := ⟨_, rfl⟩
  obtain ⟨r1, r2⟩ := awr (B := B) (H := H)
  rw [hR] at r1 r2
  refine callF_wf (m_run (Y := awS B H) (x0 := awX) (vs := [v]) ⟨hI5, 0, by omega, rfl⟩ (show (1 : Nat) ≤ 1000 by omega) (by simp) ⟨⟨_, _, rfl⟩, fc_block hm5 rfl⟩ (fun s hs => fc_block (by rw [hs _ hn5]; exact hm5) rfl) slR_nil hR fun mv vs' s6 om hI6 hn6 hk6 hw6 => ?_)
  rw [r1]
  obtain ⟨Am, cm, rfl, _⟩ := om.is
  have hlg := LgI.at (H := H) hI6.1 (hYW.log _)
  rw [r2] at hlg
  have hlgn := (hw6.2 _ _ hlg).2
  simp only at hlg hlgn
  have hσ6 : ∀ c y, σ.m c = some y → s6.m c = some y := fun c y hx => by
    have h1 := (hwf.2 _ _ hx).2
    refine hk6 c y h1 (hk5 _ _ (ha.keep c y (hG' c h1) ?_))
    have h2 := hOW.old c y hx
    have := (hwl.2 _ _ h2).2
    rw [hk3 c (by omega)]; exact h2
  simp -implicitDefEqProofs (disch := first | omega | (simp only [St.set_n, St.up_n, List.length_cons, List.length_nil]; omega)) only [go_sem, Nat.reduceAdd, Nat.reduceMul, Nat.reduceSub, Int.reduceAdd, Int.reduceMul, Int.reduceSub, Int.reduceNeg, Int.reduceToNat]
  refine SemS.seqw fun _ => ?_
  simp -implicitDefEqProofs (disch := first | omega | (simp only [St.set_n, St.up_n, List.length_cons, List.length_nil]; omega)) only [go_sem, Nat.reduceAdd, Nat.reduceMul, Nat.reduceSub, Int.reduceAdd, Int.reduceMul, Int.reduceSub, Int.reduceNeg, Int.reduceToNat]
  have hn6' : σ.n ≤ s6.n := by have := ha.n; have := hNew.n; omega
  refine callF_wf (log_calls (S := awL) (by simp -implicitDefEqProofs (disch := first | omega | (simp only [St.set_n, St.up_n, List.length_cons, List.length_nil]; omega)) only [go_sem, Nat.reduceAdd, Nat.reduceMul, Nat.reduceSub, Int.reduceAdd, Int.reduceMul, Int.reduceSub, Int.reduceNeg, Int.reduceToNat, hlg]) (by simp [awL]) fun vc s7 ov hk7 hn7 hb7 hw7 => ?_)
  simp only [St.up_n] at hn7 hb7
  have htr := (hk7 s6.n (.raw (.cells #[.slice Am R.1.mv.length cm, .int .i64 R.1.ca, .int .i64 0] 54 (0, 0))) (by simp -implicitDefEqProofs (disch := first | omega | (simp only [St.set_n, St.up_n, List.length_cons, List.length_nil]; omega)) only [go_sem, Nat.reduceAdd, Nat.reduceMul, Nat.reduceSub, Int.reduceAdd, Int.reduceMul, Int.reduceSub, Int.reduceNeg, Int.reduceToNat])).1
  have hσ7 : ∀ c y, σ.m c = some y → s7.m c = some y := fun c y hx => by
    have h1 := hσ6 c y hx
    have := (hw6.2 _ _ h1).2
    exact (hk7 c y (by simp -implicitDefEqProofs (disch := first | omega | (simp only [St.set_n, St.up_n, List.length_cons, List.length_nil]; omega)) only [go_sem, Nat.reduceAdd, Nat.reduceMul, Nat.reduceSub, Int.reduceAdd, Int.reduceMul, Int.reduceSub, Int.reduceNeg, Int.reduceToNat, h1])).1
  have e3 : (!(awL.l.any fun c => decide (c.to = 0))) = true := by kernel_rfl
  rw [e3]
  simp -implicitDefEqProofs (disch := first | omega | (simp only [St.set_n, St.up_n, List.length_cons, List.length_nil]; omega)) only [go_sem, Nat.reduceAdd, Nat.reduceMul, Nat.reduceSub, Int.reduceAdd, Int.reduceMul, Int.reduceSub, Int.reduceNeg, Int.reduceToNat]
  refine SemS.wp fun _ => ?_
  obtain ⟨bv, cv, spv, rfl, hcv, mv7, _, _⟩ := ov.has (by decide)
  have hbv := (hw7.2 _ _ mv7).2
  have e4 : awL.l.length = 2 := rfl
  have e5 : flat fC awL.l = [.int .i64 0, .int .i64 0, .int .i64 4, .int .i64 1, .string ⟨#[]⟩, .string ⟨#[]⟩, .bool false, .int .i64 0, .int .i64 0, .int .i64 0, .string ⟨#[97]⟩, .string ⟨#[120]⟩, .bool false, .int .i64 1, .int .i64 2, .int .i64 0, .int .i64 1, .int .i64 4, .int .i64 1, .string ⟨#[]⟩, .string ⟨#[]⟩, .bool false, .int .i64 7, .int .i64 0, .int .i64 0, .string ⟨#[]⟩, .string ⟨#[]⟩, .bool false, .int .i64 3, .int .i64 4] := rfl
  rw [e5] at mv7
  have b0 : bin Tryz.prog .eql 64 (.agg #[.int .i64 0, .int .i64 0, .int .i64 0, .string ⟨#[97]⟩, .string ⟨#[120]⟩, .bool false]) (.agg #[.int .i64 0, .int .i64 0, .int .i64 0, .string ⟨#[97]⟩, .string ⟨#[120]⟩, .bool false]) = some (.bool true) := by kernel_rfl
  have b1 : bin Tryz.prog .eql 64 (.agg #[.int .i64 7, .int .i64 0, .int .i64 0, .string ⟨#[]⟩, .string ⟨#[]⟩, .bool false]) (.agg #[.int .i64 7, .int .i64 0, .int .i64 0, .string ⟨#[]⟩, .string ⟨#[]⟩, .bool false]) = some (.bool true) := by kernel_rfl
  simp -implicitDefEqProofs (disch := first | omega | (simp only [St.set_n, St.up_n, List.length_cons, List.length_nil]; omega)) only [go_sem, Nat.reduceAdd, Nat.reduceMul, Nat.reduceSub, Int.reduceAdd, Int.reduceMul, Int.reduceSub, Int.reduceNeg, Int.reduceToNat, htr, mv7, e4, b0, b1]
  exact ⟨_, To.same (fun d y h2 h3 => hσ7 d y h3) hwf, hK _ (by omega)⟩
end
end Go.Proofs.YtdbgeahmhfocaaaGreat

/- Keys: numbers and texts, by walks. -/
namespace Go.Proofs.YtdbgeahmhfocaaaGreat
set_option linter.unusedSimpArgs false
set_option linter.unusedVariables false
set_option maxRecDepth 100000
open Go Go.RowKit
def dig (n : Nat) : ByteArray := ⟨#[(48 + n).toUInt8]⟩
def numS (n : Nat) : ByteArray := if n < 10 then dig n else numS (n / 10) ++ dig (n % 10)
termination_by n
decreasing_by omega
theorem numS_lo {n : Nat} (h : n < 10) : numS n = dig n := by rw [numS, if_pos h]
theorem numS_hi {n : Nat} (h : ¬ n < 10) : numS n = numS (n / 10) ++ dig (n % 10) := by rw [numS, if_neg h]
theorem dig_size (n : Nat) : (dig n).size = 1 := rfl
theorem numS_size : ∀ (k n : Nat), n < 10 ^ (k + 1) → (numS n).size ≤ k + 1
  | k, n, h => by
    by_cases h1 : n < 10
    · rw [numS_lo h1, dig_size]; omega
    · rw [numS_hi h1, ByteArray.size_append, dig_size]
      cases k with
      | zero => simp at h; omega
      | succ k =>
        have := numS_size k (n / 10) (by rw [Nat.pow_succ] at h; omega)
        omega
theorem numS_le {n : Nat} (h : n ≤ 1000000) : (numS n).size ≤ 8 := numS_size 7 n (by omega)
section
variable {B : World} {σ : St} {K : Value → St → Prop}
theorem sb_add {x y : ByteArray} (h : x.size + y.size ≤ 1000000000) : sb .add x y = some (.string (x ++ y)) := by
  unfold sb
  simp only
  rw [if_neg]
  have : IntKind.i64.max = 9223372036854775807 := by rfl
  rw [this]; omega
theorem dig_slice0 : slc Tryz.prog 9 (.string ⟨#[48, 49, 50, 51, 52, 53, 54, 55, 56, 57]⟩) (some (.int .i64 ((0 : Nat) : Int))) (some (.int .i64 (((0 : Nat) : Int) + 1))) none = some (.string (dig 0)) := by kernel_rfl
theorem dig_slice1 : slc Tryz.prog 9 (.string ⟨#[48, 49, 50, 51, 52, 53, 54, 55, 56, 57]⟩) (some (.int .i64 ((1 : Nat) : Int))) (some (.int .i64 (((1 : Nat) : Int) + 1))) none = some (.string (dig 1)) := by kernel_rfl
theorem dig_slice2 : slc Tryz.prog 9 (.string ⟨#[48, 49, 50, 51, 52, 53, 54, 55, 56, 57]⟩) (some (.int .i64 ((2 : Nat) : Int))) (some (.int .i64 (((2 : Nat) : Int) + 1))) none = some (.string (dig 2)) := by kernel_rfl
theorem dig_slice3 : slc Tryz.prog 9 (.string ⟨#[48, 49, 50, 51, 52, 53, 54, 55, 56, 57]⟩) (some (.int .i64 ((3 : Nat) : Int))) (some (.int .i64 (((3 : Nat) : Int) + 1))) none = some (.string (dig 3)) := by kernel_rfl
theorem dig_slice4 : slc Tryz.prog 9 (.string ⟨#[48, 49, 50, 51, 52, 53, 54, 55, 56, 57]⟩) (some (.int .i64 ((4 : Nat) : Int))) (some (.int .i64 (((4 : Nat) : Int) + 1))) none = some (.string (dig 4)) := by kernel_rfl
theorem dig_slice5 : slc Tryz.prog 9 (.string ⟨#[48, 49, 50, 51, 52, 53, 54, 55, 56, 57]⟩) (some (.int .i64 ((5 : Nat) : Int))) (some (.int .i64 (((5 : Nat) : Int) + 1))) none = some (.string (dig 5)) := by kernel_rfl
theorem dig_slice6 : slc Tryz.prog 9 (.string ⟨#[48, 49, 50, 51, 52, 53, 54, 55, 56, 57]⟩) (some (.int .i64 ((6 : Nat) : Int))) (some (.int .i64 (((6 : Nat) : Int) + 1))) none = some (.string (dig 6)) := by kernel_rfl
theorem dig_slice7 : slc Tryz.prog 9 (.string ⟨#[48, 49, 50, 51, 52, 53, 54, 55, 56, 57]⟩) (some (.int .i64 ((7 : Nat) : Int))) (some (.int .i64 (((7 : Nat) : Int) + 1))) none = some (.string (dig 7)) := by kernel_rfl
theorem dig_slice8 : slc Tryz.prog 9 (.string ⟨#[48, 49, 50, 51, 52, 53, 54, 55, 56, 57]⟩) (some (.int .i64 ((8 : Nat) : Int))) (some (.int .i64 (((8 : Nat) : Int) + 1))) none = some (.string (dig 8)) := by kernel_rfl
theorem dig_slice9 : slc Tryz.prog 9 (.string ⟨#[48, 49, 50, 51, 52, 53, 54, 55, 56, 57]⟩) (some (.int .i64 ((9 : Nat) : Int))) (some (.int .i64 (((9 : Nat) : Int) + 1))) none = some (.string (dig 9)) := by kernel_rfl
theorem dig_slice {n : Nat} (h : n < 10) : slc Tryz.prog 9 (.string ⟨#[48, 49, 50, 51, 52, 53, 54, 55, 56, 57]⟩) (some (.int .i64 n)) (some (.int .i64 (n + 1))) none = some (.string (dig n)) := by
  have : n = 0 ∨ n = 1 ∨ n = 2 ∨ n = 3 ∨ n = 4 ∨ n = 5 ∨ n = 6 ∨ n = 7 ∨ n = 8 ∨ n = 9 := by omega
  rcases this with rfl | rfl | rfl | rfl | rfl | rfl | rfl | rfl | rfl | rfl
  · exact dig_slice0
  · exact dig_slice1
  · exact dig_slice2
  · exact dig_slice3
  · exact dig_slice4
  · exact dig_slice5
  · exact dig_slice6
  · exact dig_slice7
  · exact dig_slice8
  · exact dig_slice9
theorem num_of : ∀ (n : Nat) {K : Value → St → Prop}, n ≤ 1000000 → K (.string (numS n)) σ → Fn Tryz.prog B 102 #[.int .i64 n] σ K := by
  intro n
  induction n using Nat.strongRecOn with
  | _ n ih =>
    intro K hn hK
    refine Fn.of is102 (by simp) fun hwf => ?_
    simp only [b102, Tryz.f102, Option.getD_some]
    by_cases h : n < 10
    · have h' : ¬ (10 : Int) ≤ n := by omega
      rw [numS_lo h] at hK
      simp -implicitDefEqProofs (disch := first | omega | (simp only [St.set_n, St.up_n, List.length_cons, List.length_nil]; omega)) only [go_sem, Nat.reduceAdd, Nat.reduceMul, Nat.reduceSub, Int.reduceAdd, Int.reduceMul, Int.reduceSub, Int.reduceNeg, Int.reduceToNat, h', dig_slice h]
      exact hK
    · have h' : (10 : Int) ≤ n := by omega
      have e1 : ((n : Int).tdiv 10) = ((n / 10 : Nat) : Int) := by rw [Int.tdiv_eq_ediv_of_nonneg (by omega)]; omega
      have e2 : ((n : Int).tmod 10) = ((n % 10 : Nat) : Int) := by rw [Int.tmod_eq_emod_of_nonneg (by omega)]; omega
      rw [numS_hi h] at hK
      simp -implicitDefEqProofs (disch := first | omega | (simp only [St.set_n, St.up_n, List.length_cons, List.length_nil]; omega)) only [go_sem, Nat.reduceAdd, Nat.reduceMul, Nat.reduceSub, Int.reduceAdd, Int.reduceMul, Int.reduceSub, Int.reduceNeg, Int.reduceToNat, h']
      first | rw [e1] | skip
      refine callF_of (ih (n / 10) (by omega) (by omega) ?_)
      simp -implicitDefEqProofs (disch := first | omega | (simp only [St.set_n, St.up_n, List.length_cons, List.length_nil]; omega)) only [go_sem, Nat.reduceAdd, Nat.reduceMul, Nat.reduceSub, Int.reduceAdd, Int.reduceMul, Int.reduceSub, Int.reduceNeg, Int.reduceToNat]
      first | rw [e2] | skip
      refine callF_of (ih (n % 10) (by omega) (by omega) ?_)
      have hs := numS_le (n := n / 10) (by omega)
      have hd := dig_size (n % 10)
      rw [numS_lo (n := n % 10) (by omega)]
      simp -implicitDefEqProofs (disch := first | omega | (simp only [St.set_n, St.up_n, List.length_cons, List.length_nil]; omega)) only [go_sem, Nat.reduceAdd, Nat.reduceMul, Nat.reduceSub, Int.reduceAdd, Int.reduceMul, Int.reduceSub, Int.reduceNeg, Int.reduceToNat, sb_add (x := numS (n / 10)) (y := dig (n % 10)) (by omega)]
      exact hK
def textS (s : ByteArray) : ByteArray := numS s.size ++ ⟨#[58]⟩ ++ s
theorem text_of {s : ByteArray} (hs : s.size ≤ 100000) (hK : K (.string (textS s)) σ) : Fn Tryz.prog B 103 #[.string s] σ K := by
  refine Fn.of is103 (by simp) fun hwf => ?_
  simp only [b103, Tryz.f103, Option.getD_some]
  simp -implicitDefEqProofs (disch := first | omega | (simp only [St.set_n, St.up_n, List.length_cons, List.length_nil]; omega)) only [go_sem, Nat.reduceAdd, Nat.reduceMul, Nat.reduceSub, Int.reduceAdd, Int.reduceMul, Int.reduceSub, Int.reduceNeg, Int.reduceToNat]
  refine callF_of (num_of s.size (by omega) ?_)
  have h1 := numS_le (n := s.size) (by omega)
  have h2 : (⟨#[58]⟩ : ByteArray).size = 1 := rfl
  have h3 : (numS s.size ++ (⟨#[58]⟩ : ByteArray)).size = (numS s.size).size + 1 := by rw [ByteArray.size_append, h2]
  simp -implicitDefEqProofs (disch := first | omega | (simp only [St.set_n, St.up_n, List.length_cons, List.length_nil]; omega)) only [go_sem, Nat.reduceAdd, Nat.reduceMul, Nat.reduceSub, Int.reduceAdd, Int.reduceMul, Int.reduceSub, Int.reduceNeg, Int.reduceToNat, sb_add (x := numS s.size) (y := ⟨#[58]⟩) (by omega), sb_add (x := numS s.size ++ ⟨#[58]⟩) (y := s) (by omega)]
  exact hK
theorem textS_size {s : ByteArray} (hs : s.size ≤ 100) : (textS s).size ≤ 109 := by
  have h1 := numS_le (n := s.size) (by omega)
  have h2 : (⟨#[58]⟩ : ByteArray).size = 1 := rfl
  unfold textS
  rw [ByteArray.size_append, ByteArray.size_append, h2]; omega
end
end Go.Proofs.YtdbgeahmhfocaaaGreat

/- Keys: messages, by walks. -/
namespace Go.Proofs.YtdbgeahmhfocaaaGreat
set_option linter.unusedSimpArgs false
set_option linter.unusedVariables false
set_option maxRecDepth 100000
open Go Go.RowKit
def mF (a : ByteArray) (m : Mg) : ByteArray := if m.kept then a ++ textS m.topic ++ textS m.pay ++ ⟨#[107]⟩ else a ++ textS m.topic ++ textS m.pay
def msgsS (q : List Mg) : ByteArray := q.foldl mF (numS q.length ++ ⟨#[40]⟩) ++ ⟨#[41]⟩
structure SmM (m : Mg) : Prop where
  t : m.topic.size ≤ 100
  p : m.pay.size ≤ 100
theorem mF_size {a : ByteArray} {m : Mg} (h : SmM m) : (mF a m).size ≤ a.size + 219 := by
  have h1 := textS_size h.t
  have h2 := textS_size h.p
  have h3 : (⟨#[107]⟩ : ByteArray).size = 1 := rfl
  unfold mF
  split
  · rw [ByteArray.size_append, ByteArray.size_append, ByteArray.size_append, h3]; omega
  · rw [ByteArray.size_append, ByteArray.size_append]; omega
theorem mFs_size : ∀ (q : List Mg) (a : ByteArray), (∀ m ∈ q, SmM m) → (q.foldl mF a).size ≤ a.size + 219 * q.length
  | [], a, _ => by simp
  | m :: q, a, h => by
    have h1 := mFs_size q (mF a m) fun x hx => h x (by simp [hx])
    have h2 := mF_size (a := a) (h m (by simp))
    simp only [List.foldl_cons, List.length_cons] at h1 ⊢
    omega
theorem msgsS_size {q : List Mg} (h : ∀ m ∈ q, SmM m) (hl : q.length ≤ 16) : (msgsS q).size ≤ 4000 := by
  have h1 := mFs_size q (numS q.length ++ ⟨#[40]⟩) h
  have h2 := numS_le (n := q.length) (by omega)
  have h3 : (⟨#[40]⟩ : ByteArray).size = 1 := rfl
  have h4 : (⟨#[41]⟩ : ByteArray).size = 1 := rfl
  unfold msgsS
  rw [ByteArray.size_append, h4]
  rw [ByteArray.size_append, h3] at h1
  omega
theorem fM_len (x : Mg) : (fM x).length = 3 := rfl
theorem mg_cells {q : List Mg} {i : Nat} {m : Mg} (h : q[i]? = some m) (sp : List Value) : (flat fM q ++ sp)[i * 3]? = some (.string m.topic) ∧ (flat fM q ++ sp)[i * 3 + 1]? = some (.string m.pay) ∧ (flat fM q ++ sp)[i * 3 + 2]? = some (.bool m.kept) := by
  have h0 := flat_get fM_len q sp i m 0 _ h rfl
  have h1 := flat_get fM_len q sp i m 1 _ h rfl
  have h2 := flat_get fM_len q sp i m 2 _ h rfl
  exact ⟨by simpa using h0, h1, h2⟩
section
variable {B : World} {σ : St} {K : Value → St → Prop}
structure MsF (A : Option Addr) (n c i : Nat) (a : ByteArray) (e : Fr) : Prop where
  v0 : e.v 0 = .slice A n c
  v3 : e.v 3 = .string a
  v4 : e.v 4 = .int .i64 i
  d : e.d = []
theorem take_foldl {q : List Mg} {i : Nat} {m : Mg} {a : ByteArray} (h : q[i]? = some m) : mF ((q.take i).foldl mF a) m = (q.take (i + 1)).foldl mF a := by
  rw [List.take_add_one, h]
  simp
set_option maxHeartbeats 1000000 in
theorem msgs_of {q : List Mg} {w : Value} (hs : ∀ m ∈ q, SmM m) (hl : q.length ≤ 1000) (ho : Own σ 40 3 (flat fM q) q.length w) (hK : K (.string (msgsS q)) σ) : Fn Tryz.prog B 104 #[w] σ K := by
  obtain ⟨A, C, rfl, hC⟩ := ho.is
  have hb0 := numS_le (n := q.length) (by omega)
  have h40 : (⟨#[40]⟩ : ByteArray).size = 1 := rfl
  have h41 : (⟨#[41]⟩ : ByteArray).size = 1 := rfl
  have h107 : (⟨#[107]⟩ : ByteArray).size = 1 := rfl
  have ha0 : (numS q.length ++ (⟨#[40]⟩ : ByteArray)).size ≤ 9 := by rw [ByteArray.size_append, h40]; omega
  refine Fn.of is104 (by simp) fun hwf => ?_
  simp only [b104, Tryz.f104, Option.getD_some]
  simp -implicitDefEqProofs (disch := first | omega | (simp only [St.set_n, St.up_n, List.length_cons, List.length_nil]; omega)) only [go_sem, Nat.reduceAdd, Nat.reduceMul, Nat.reduceSub, Int.reduceAdd, Int.reduceMul, Int.reduceSub, Int.reduceNeg, Int.reduceToNat]
  refine callF_of (num_of q.length (by omega) ?_)
  simp -implicitDefEqProofs (disch := first | omega | (simp only [St.set_n, St.up_n, List.length_cons, List.length_nil]; omega)) only [go_sem, Nat.reduceAdd, Nat.reduceMul, Nat.reduceSub, Int.reduceAdd, Int.reduceMul, Int.reduceSub, Int.reduceNeg, Int.reduceToNat, sb_add (x := numS q.length) (y := ⟨#[40]⟩) (by omega)]
  refine loop_rule (fun m e s => ∃ i : Nat, m = q.length - i ∧ i ≤ q.length ∧ MsF A q.length C i ((q.take i).foldl mF (numS q.length ++ ⟨#[40]⟩)) e ∧ s = σ) q.length ?_ ?_
  · exact ⟨0, by omega, by omega, ⟨by simp -implicitDefEqProofs (disch := first | omega | (simp only [St.set_n, St.up_n, List.length_cons, List.length_nil]; omega)) only [go_sem, Nat.reduceAdd, Nat.reduceMul, Nat.reduceSub, Int.reduceAdd, Int.reduceMul, Int.reduceSub, Int.reduceNeg, Int.reduceToNat], by simp -implicitDefEqProofs (disch := first | omega | (simp only [St.set_n, St.up_n, List.length_cons, List.length_nil]; omega)) only [go_sem, Nat.reduceAdd, Nat.reduceMul, Nat.reduceSub, Int.reduceAdd, Int.reduceMul, Int.reduceSub, Int.reduceNeg, Int.reduceToNat]; rfl, by simp -implicitDefEqProofs (disch := first | omega | (simp only [St.set_n, St.up_n, List.length_cons, List.length_nil]; omega)) only [go_sem, Nat.reduceAdd, Nat.reduceMul, Nat.reduceSub, Int.reduceAdd, Int.reduceMul, Int.reduceSub, Int.reduceNeg, Int.reduceToNat]; rfl, by simp -implicitDefEqProofs (disch := first | omega | (simp only [St.set_n, St.up_n, List.length_cons, List.length_nil]; omega)) only [go_sem, Nat.reduceAdd, Nat.reduceMul, Nat.reduceSub, Int.reduceAdd, Int.reduceMul, Int.reduceSub, Int.reduceNeg, Int.reduceToNat]⟩, rfl⟩
  rintro m e s hws ⟨i, hm, hi, ⟨q0, q3, q4, hd⟩, rfl⟩
  by_cases hlt : (i : Int) < q.length
  · obtain ⟨x, hx⟩ : ∃ x, q[i]? = some x := ⟨q[i]'(by omega), List.getElem?_eq_getElem (by omega)⟩
    obtain ⟨b, c1, sp, e1, hc1, m1, _, _⟩ := ho.has (by omega)
    cases e1
    obtain ⟨g0, g1, g2⟩ := mg_cells hx sp
    have hsm := hs x (List.mem_of_getElem? hx)
    have hst := hsm.t
    have hsp := hsm.p
    have ht := textS_size hsm.t
    have hp := textS_size hsm.p
    have hsz := mFs_size (q.take i) (numS q.length ++ ⟨#[40]⟩) fun y hy => hs y (List.mem_of_mem_take hy)
    have hltk : (q.take i).length ≤ 1000 := by rw [List.length_take]; omega
    have hnx := take_foldl (a := numS q.length ++ ⟨#[40]⟩) hx
    generalize (q.take i).foldl mF (numS q.length ++ ⟨#[40]⟩) = a at q3 hsz hnx
    have hs1 : (a ++ textS x.topic).size = a.size + (textS x.topic).size := ByteArray.size_append
    have hs2 : (a ++ textS x.topic ++ textS x.pay).size = a.size + (textS x.topic).size + (textS x.pay).size := by rw [ByteArray.size_append, ByteArray.size_append]
    simp -implicitDefEqProofs (disch := first | omega | (simp only [St.set_n, St.up_n, List.length_cons, List.length_nil]; omega)) only [go_sem, Nat.reduceAdd, Nat.reduceMul, Nat.reduceSub, Int.reduceAdd, Int.reduceMul, Int.reduceSub, Int.reduceNeg, Int.reduceToNat, q0, q3, q4, hlt, m1, g0, g1, g2]
    refine effD_plan [0, 0, 0, 6, 14, 30, 62, 127, 0, 0, 768, 1792, 3840, 8062, 16383, 32767] [0, 1, 2, 3, 4, 5, 7, 8, 9, 10, 11, 12, 14, 15] (.eag 0 (.eag 1 (.eag 2 (.eag 3 (.eag 4 (.eagq 5 (.eag 8 (.eag 9 (.eag 10 (.eag 11 (.eagq 12 (.alt 6 [12] (.eag 7 (.alt 13 [] (.eag 14 (.eag 15 .fin)) .stop)) .stop)))))))))))) (by kernel_rfl) ?_
    simp -implicitDefEqProofs (disch := first | omega | (simp only [St.set_n, St.up_n, List.length_cons, List.length_nil]; omega)) only [go_sem, Nat.reduceAdd, Nat.reduceMul, Nat.reduceSub, Int.reduceAdd, Int.reduceMul, Int.reduceSub, Int.reduceNeg, Int.reduceToNat, q0, q3, q4, hlt, m1, g0, g1, g2]
    refine callF_of (text_of (by omega) ?_)
    simp -implicitDefEqProofs (disch := first | omega | (simp only [St.set_n, St.up_n, List.length_cons, List.length_nil]; omega)) only [go_sem, Nat.reduceAdd, Nat.reduceMul, Nat.reduceSub, Int.reduceAdd, Int.reduceMul, Int.reduceSub, Int.reduceNeg, Int.reduceToNat, q0, q3, q4, hlt, m1, g0, g1, g2, sb_add (x := a) (y := textS x.topic) (by omega)]
    refine callF_of (text_of (by omega) ?_)
    cases hk : x.kept with
    | true =>
      have e : a ++ textS x.topic ++ textS x.pay ++ ⟨#[107]⟩ = mF a x := by unfold mF; rw [hk]; rfl
      rw [hk] at g2
      simp -implicitDefEqProofs (disch := first | omega | (simp only [St.set_n, St.up_n, List.length_cons, List.length_nil]; omega)) only [go_sem, Nat.reduceAdd, Nat.reduceMul, Nat.reduceSub, Int.reduceAdd, Int.reduceMul, Int.reduceSub, Int.reduceNeg, Int.reduceToNat, q0, q3, q4, hlt, m1, g0, g1, g2, sb_add (x := a ++ textS x.topic) (y := textS x.pay) (by omega), sb_add (x := a ++ textS x.topic ++ textS x.pay) (y := ⟨#[107]⟩) (by omega)]
      rw [e, hnx]
      refine ⟨q.length - (i + 1), by omega, i + 1, rfl, by omega, ⟨by simp -implicitDefEqProofs (disch := first | omega | (simp only [St.set_n, St.up_n, List.length_cons, List.length_nil]; omega)) only [go_sem, Nat.reduceAdd, Nat.reduceMul, Nat.reduceSub, Int.reduceAdd, Int.reduceMul, Int.reduceSub, Int.reduceNeg, Int.reduceToNat, q0], by simp -implicitDefEqProofs (disch := first | omega | (simp only [St.set_n, St.up_n, List.length_cons, List.length_nil]; omega)) only [go_sem, Nat.reduceAdd, Nat.reduceMul, Nat.reduceSub, Int.reduceAdd, Int.reduceMul, Int.reduceSub, Int.reduceNeg, Int.reduceToNat], by simp -implicitDefEqProofs (disch := first | omega | (simp only [St.set_n, St.up_n, List.length_cons, List.length_nil]; omega)) only [go_sem, Nat.reduceAdd, Nat.reduceMul, Nat.reduceSub, Int.reduceAdd, Int.reduceMul, Int.reduceSub, Int.reduceNeg, Int.reduceToNat]; simp, by simp -implicitDefEqProofs (disch := first | omega | (simp only [St.set_n, St.up_n, List.length_cons, List.length_nil]; omega)) only [go_sem, Nat.reduceAdd, Nat.reduceMul, Nat.reduceSub, Int.reduceAdd, Int.reduceMul, Int.reduceSub, Int.reduceNeg, Int.reduceToNat, hd]⟩⟩
    | false =>
      have e : a ++ textS x.topic ++ textS x.pay = mF a x := by unfold mF; rw [hk]; rfl
      rw [hk] at g2
      simp -implicitDefEqProofs (disch := first | omega | (simp only [St.set_n, St.up_n, List.length_cons, List.length_nil]; omega)) only [go_sem, Nat.reduceAdd, Nat.reduceMul, Nat.reduceSub, Int.reduceAdd, Int.reduceMul, Int.reduceSub, Int.reduceNeg, Int.reduceToNat, q0, q3, q4, hlt, m1, g0, g1, g2, sb_add (x := a ++ textS x.topic) (y := textS x.pay) (by omega)]
      rw [e, hnx]
      refine ⟨q.length - (i + 1), by omega, i + 1, rfl, by omega, ⟨by simp -implicitDefEqProofs (disch := first | omega | (simp only [St.set_n, St.up_n, List.length_cons, List.length_nil]; omega)) only [go_sem, Nat.reduceAdd, Nat.reduceMul, Nat.reduceSub, Int.reduceAdd, Int.reduceMul, Int.reduceSub, Int.reduceNeg, Int.reduceToNat, q0], by simp -implicitDefEqProofs (disch := first | omega | (simp only [St.set_n, St.up_n, List.length_cons, List.length_nil]; omega)) only [go_sem, Nat.reduceAdd, Nat.reduceMul, Nat.reduceSub, Int.reduceAdd, Int.reduceMul, Int.reduceSub, Int.reduceNeg, Int.reduceToNat], by simp -implicitDefEqProofs (disch := first | omega | (simp only [St.set_n, St.up_n, List.length_cons, List.length_nil]; omega)) only [go_sem, Nat.reduceAdd, Nat.reduceMul, Nat.reduceSub, Int.reduceAdd, Int.reduceMul, Int.reduceSub, Int.reduceNeg, Int.reduceToNat]; simp, by simp -implicitDefEqProofs (disch := first | omega | (simp only [St.set_n, St.up_n, List.length_cons, List.length_nil]; omega)) only [go_sem, Nat.reduceAdd, Nat.reduceMul, Nat.reduceSub, Int.reduceAdd, Int.reduceMul, Int.reduceSub, Int.reduceNeg, Int.reduceToNat, hd]⟩⟩
  · have hi' : i = q.length := by omega
    subst hi'
    rw [List.take_length] at q3
    have hsz := mFs_size q (numS q.length ++ ⟨#[40]⟩) hs
    simp -implicitDefEqProofs (disch := first | omega | (simp only [St.set_n, St.up_n, List.length_cons, List.length_nil]; omega)) only [go_sem, Nat.reduceAdd, Nat.reduceMul, Nat.reduceSub, Int.reduceAdd, Int.reduceMul, Int.reduceSub, Int.reduceNeg, Int.reduceToNat, q0, q3, q4, hlt, sb_add (x := q.foldl mF (numS q.length ++ ⟨#[40]⟩)) (y := ⟨#[41]⟩) (by omega), hd]
    exact hK
end
end Go.Proofs.YtdbgeahmhfocaaaGreat

/- Keys: of states, by walks. -/
namespace Go.Proofs.YtdbgeahmhfocaaaGreat
set_option linter.unusedSimpArgs false
set_option linter.unusedVariables false
set_option maxRecDepth 100000
open Go Go.RowKit
/-- The document's state, as far as it moves. -/
structure XS where
  q : List (List Mg)
  d : List Int
def stV (rm : Int) (lv qv dv : Value) : Value := .agg #[lv, .int .i64 rm, qv, dv, .slice none 0 0, .slice none 0 0, .slice none 0 0, .int .i64 0]
structure StOk (n : Nat) (s : St) (X : XS) (lv qv dv : Value) (ws : List Value) : Prop where
  ol : Own s 33 1 (List.replicate n (.slice none 0 0)) n lv
  oq : Own s 23 1 ws n qv
  od : Own s 3 1 (ints X.d) n dv
  lw : ws.length = n
  lq : X.q.length = n
  ld : X.d.length = n
  hw : ∀ (i : Nat) (w : Value) (q : List Mg), ws[i]? = some w → X.q[i]? = some q → Own s 40 3 (flat fM q) q.length w
  sm : ∀ q ∈ X.q, q.length ≤ 16 ∧ ∀ m ∈ q, SmM m
  dd : ∀ x ∈ X.d, 0 ≤ x ∧ x ≤ 1000
theorem StOk.keep {n : Nat} {s s' : St} {X : XS} {lv qv dv : Value} {ws : List Value} (h : StOk n s X lv qv dv ws) (hk : ∀ c o, s.m c = some (.raw o) → s'.m c = some (.raw o)) : StOk n s' X lv qv dv ws :=
  ⟨h.ol.keepR fun b o _ ho => hk b o ho, h.oq.keepR fun b o _ ho => hk b o ho, h.od.keepR fun b o _ ho => hk b o ho, h.lw, h.lq, h.ld, fun i w q h1 h2 => (h.hw i w q h1 h2).keepR fun b o _ ho => hk b o ho, h.sm, h.dd⟩
def k1F (a : ByteArray) (q : List Mg) (x : Int) : ByteArray := a ++ numS 0 ++ ⟨#[91]⟩ ++ ⟨#[93]⟩ ++ msgsS q ++ numS x.toNat
def ksF (a : ByteArray) : List (List Mg) → List Int → ByteArray
  | q :: qs, x :: xs => ksF (k1F a q x) qs xs
  | _, _ => a
def keyS (rm : Nat) (X : XS) : ByteArray := ksF (numS rm ++ ⟨#[47]⟩) X.q X.d ++ msgsS []
theorem ksF_step : ∀ (qs : List (List Mg)) (xs : List Int) (i : Nat) (q : List Mg) (x : Int) (a : ByteArray), qs[i]? = some q → xs[i]? = some x → k1F (ksF a (qs.take i) (xs.take i)) q x = ksF a (qs.take (i + 1)) (xs.take (i + 1))
  | q0 :: qs, x0 :: xs, 0, q, x, a, h1, h2 => by
    simp only [List.getElem?_cons_zero, Option.some.injEq] at h1 h2
    subst h1 h2
    cases qs <;> cases xs <;> rfl
  | q0 :: qs, x0 :: xs, i + 1, q, x, a, h1, h2 => by
    simp only [List.getElem?_cons_succ] at h1 h2
    simp only [List.take_succ_cons, ksF]
    exact ksF_step qs xs i q x _ h1 h2
  | [], xs, i, q, x, a, h1, h2 => by simp at h1
  | q0 :: qs, [], i, q, x, a, h1, h2 => by simp at h2
theorem ksF_size : ∀ (qs : List (List Mg)) (xs : List Int) (a : ByteArray), (∀ q ∈ qs, q.length ≤ 16 ∧ ∀ m ∈ q, SmM m) → (∀ x ∈ xs, 0 ≤ x ∧ x ≤ 1000) → (ksF a qs xs).size ≤ a.size + 4100 * qs.length
  | [], xs, a, _, _ => by simp [ksF]
  | q :: qs, [], a, _, _ => by simp [ksF]
  | q :: qs, x :: xs, a, h1, h2 => by
    have h3 := ksF_size qs xs (k1F a q x) (fun y hy => h1 y (by simp [hy])) fun y hy => h2 y (by simp [hy])
    have h4 := h1 q (by simp)
    have h5 := msgsS_size h4.2 h4.1
    have h6 := h2 x (by simp)
    have h7 := numS_le (n := x.toNat) (by omega)
    have h8 := numS_le (n := 0) (by omega)
    have h91 : (⟨#[91]⟩ : ByteArray).size = 1 := rfl
    have h93 : (⟨#[93]⟩ : ByteArray).size = 1 := rfl
    have h9 : (k1F a q x).size = a.size + (numS 0).size + 1 + 1 + (msgsS q).size + (numS x.toNat).size := by
      unfold k1F
      simp only [ByteArray.size_append, h91, h93]
    simp only [ksF, List.length_cons] at h3 ⊢
    omega
section
variable {B : World} {σ : St} {K : Value → St → Prop}
theorem msgs_nil (hK : K (.string (msgsS [])) σ) : Fn Tryz.prog B 104 #[.slice none 0 0] σ K := msgs_of (q := []) (by simp) (by simp) Own.nil hK
structure KyF (n i : Nat) (bx : Nat) (a : ByteArray) (e : Fr) : Prop where
  v1 : e.v 1 = .pointer (some ⟨bx, 0, none⟩)
  v3 : e.v 3 = .string a
  v4 : e.v 4 = .int .i64 i
  d : e.d = []
set_option maxHeartbeats 4000000 in
theorem key_of {n rm : Nat} {X : XS} {lv qv dv : Value} {ws : List Value} (h : StOk n σ X lv qv dv ws) (hn : n ≤ 8) (hr : rm ≤ 16) (hK : ∀ τ, σ.n ≤ τ.n → (∀ c y, σ.m c = some y → τ.m c = some y) → K (.string (keyS rm X)) τ) : Fn Tryz.prog B 86 #[stV rm lv qv dv] σ K := by
  obtain ⟨Al, Cl, rfl, hCl⟩ := h.ol.is
  obtain ⟨Aq, Cq, rfl, hCq⟩ := h.oq.is
  obtain ⟨Ad, Cd, rfl, hCd⟩ := h.od.is
  have hb0 := numS_le (n := rm) (by omega)
  have h47 : (⟨#[47]⟩ : ByteArray).size = 1 := rfl
  have h91 : (⟨#[91]⟩ : ByteArray).size = 1 := rfl
  have h93 : (⟨#[93]⟩ : ByteArray).size = 1 := rfl
  refine Fn.of is86 (by simp) fun hwf => ?_
  have hB := hwf.1
  unfold stV
  simp only [b86, Tryz.f86, Option.getD_some]
  simp -implicitDefEqProofs (disch := first | omega | (simp only [St.set_n, St.up_n, List.length_cons, List.length_nil]; omega)) only [go_sem, Nat.reduceAdd, Nat.reduceMul, Nat.reduceSub, Int.reduceAdd, Int.reduceMul, Int.reduceSub, Int.reduceNeg, Int.reduceToNat]
  have hk1 : ∀ c y, σ.m c = some y → ((σ.set σ.n (.raw (.cells #[.slice Al n Cl, .int .i64 rm, .slice Aq n Cq, .slice Ad n Cd, .slice none 0 0, .slice none 0 0, .slice none 0 0, .int .i64 0] 37 (0, 0)))).up (σ.n + 1)).m c = some y := fun c y hx => by
    have := (hwf.2 _ _ hx).2
    simp -implicitDefEqProofs (disch := first | omega | (simp only [St.set_n, St.up_n, List.length_cons, List.length_nil]; omega)) only [go_sem, Nat.reduceAdd, Nat.reduceMul, Nat.reduceSub, Int.reduceAdd, Int.reduceMul, Int.reduceSub, Int.reduceNeg, Int.reduceToNat, hx]
  have h1 := h.keep (s' := ((σ.set σ.n (.raw (.cells #[.slice Al n Cl, .int .i64 rm, .slice Aq n Cq, .slice Ad n Cd, .slice none 0 0, .slice none 0 0, .slice none 0 0, .int .i64 0] 37 (0, 0)))).up (σ.n + 1))) fun c o ho => hk1 c _ ho
  have hm1 : ((σ.set σ.n (.raw (.cells #[.slice Al n Cl, .int .i64 rm, .slice Aq n Cq, .slice Ad n Cd, .slice none 0 0, .slice none 0 0, .slice none 0 0, .int .i64 0] 37 (0, 0)))).up (σ.n + 1)).m σ.n = some (.raw (.cells #[.slice Al n Cl, .int .i64 rm, .slice Aq n Cq, .slice Ad n Cd, .slice none 0 0, .slice none 0 0, .slice none 0 0, .int .i64 0] 37 (0, 0))) := by simp -implicitDefEqProofs (disch := first | omega | (simp only [St.set_n, St.up_n, List.length_cons, List.length_nil]; omega)) only [go_sem, Nat.reduceAdd, Nat.reduceMul, Nat.reduceSub, Int.reduceAdd, Int.reduceMul, Int.reduceSub, Int.reduceNeg, Int.reduceToNat]
  have hn1 : σ.n < ((σ.set σ.n (.raw (.cells #[.slice Al n Cl, .int .i64 rm, .slice Aq n Cq, .slice Ad n Cd, .slice none 0 0, .slice none 0 0, .slice none 0 0, .int .i64 0] 37 (0, 0)))).up (σ.n + 1)).n := by simp only [St.up_n]; omega
  generalize (σ.set σ.n (.raw (.cells #[.slice Al n Cl, .int .i64 rm, .slice Aq n Cq, .slice Ad n Cd, .slice none 0 0, .slice none 0 0, .slice none 0 0, .int .i64 0] 37 (0, 0)))).up (σ.n + 1) = s1 at hk1 h1 hm1 hn1 ⊢
  refine callF_of (num_of rm (by omega) ?_)
  simp -implicitDefEqProofs (disch := first | omega | (simp only [St.set_n, St.up_n, List.length_cons, List.length_nil]; omega)) only [go_sem, Nat.reduceAdd, Nat.reduceMul, Nat.reduceSub, Int.reduceAdd, Int.reduceMul, Int.reduceSub, Int.reduceNeg, Int.reduceToNat, hm1, sb_add (x := numS rm) (y := ⟨#[47]⟩) (by omega)]
  refine loop_rule (fun m e s => ∃ i : Nat, m = n - i ∧ i ≤ n ∧ KyF n i σ.n (ksF (numS rm ++ ⟨#[47]⟩) (X.q.take i) (X.d.take i)) e ∧ s = s1) n ?_ ?_
  · exact ⟨0, by omega, by omega, ⟨by simp -implicitDefEqProofs (disch := first | omega | (simp only [St.set_n, St.up_n, List.length_cons, List.length_nil]; omega)) only [go_sem, Nat.reduceAdd, Nat.reduceMul, Nat.reduceSub, Int.reduceAdd, Int.reduceMul, Int.reduceSub, Int.reduceNeg, Int.reduceToNat], by simp -implicitDefEqProofs (disch := first | omega | (simp only [St.set_n, St.up_n, List.length_cons, List.length_nil]; omega)) only [go_sem, Nat.reduceAdd, Nat.reduceMul, Nat.reduceSub, Int.reduceAdd, Int.reduceMul, Int.reduceSub, Int.reduceNeg, Int.reduceToNat]; rfl, by simp -implicitDefEqProofs (disch := first | omega | (simp only [St.set_n, St.up_n, List.length_cons, List.length_nil]; omega)) only [go_sem, Nat.reduceAdd, Nat.reduceMul, Nat.reduceSub, Int.reduceAdd, Int.reduceMul, Int.reduceSub, Int.reduceNeg, Int.reduceToNat]; rfl, by simp -implicitDefEqProofs (disch := first | omega | (simp only [St.set_n, St.up_n, List.length_cons, List.length_nil]; omega)) only [go_sem, Nat.reduceAdd, Nat.reduceMul, Nat.reduceSub, Int.reduceAdd, Int.reduceMul, Int.reduceSub, Int.reduceNeg, Int.reduceToNat]⟩, rfl⟩
  rintro m e s hws ⟨i, hm, hi, ⟨q1, q3, q4, hd⟩, rfl⟩
  by_cases hlt : (i : Int) < n
  · have hiN : i < n := by omega
    obtain ⟨q, hq⟩ : ∃ q, X.q[i]? = some q := ⟨X.q[i]'(by have := h.lq; omega), List.getElem?_eq_getElem _⟩
    obtain ⟨x, hx⟩ : ∃ x, X.d[i]? = some x := ⟨X.d[i]'(by have := h.ld; omega), List.getElem?_eq_getElem _⟩
    obtain ⟨w, hw⟩ : ∃ w, ws[i]? = some w := ⟨ws[i]'(by have := h.lw; omega), List.getElem?_eq_getElem _⟩
    obtain ⟨bl, cl, spl, el, _, ml, _, _⟩ := h1.ol.has (by omega)
    obtain ⟨bq, cq, spq, eq, _, mq, _, _⟩ := h1.oq.has (by omega)
    obtain ⟨bd, cd, spd, ed, _, md, _, _⟩ := h1.od.has (by omega)
    cases el; cases eq; cases ed
    have gl : (List.replicate n (.slice none 0 0) ++ spl)[i]? = some (.slice none 0 0) := by
      rw [List.getElem?_append_left (by simp; omega)]; simp [hiN]
    have gq : (ws ++ spq)[i]? = some w := by
      rw [List.getElem?_append_left (by have := h.lw; omega)]; exact hw
    have gd : (ints X.d ++ spd)[i]? = some (.int .i64 x) := ints_get hx spd
    have how := h1.hw i w q hw hq
    obtain ⟨hq16, hqs⟩ := h.sm q (List.mem_of_getElem? hq)
    obtain ⟨hx0, hx1⟩ := h.dd x (List.mem_of_getElem? hx)
    have hmq := msgsS_size hqs hq16
    have hxx : (x : Int) = (x.toNat : Int) := by omega
    have hx7 := numS_le (n := x.toNat) (by omega)
    have h00 := numS_le (n := 0) (by omega)
    have hsz := ksF_size (X.q.take i) (X.d.take i) (numS rm ++ ⟨#[47]⟩) (fun y hy => h.sm y (List.mem_of_mem_take hy)) fun y hy => h.dd y (List.mem_of_mem_take hy)
    have hsz0 : (numS rm ++ (⟨#[47]⟩ : ByteArray)).size ≤ 9 := by rw [ByteArray.size_append, h47]; omega
    have hltk : (X.q.take i).length ≤ 8 := by rw [List.length_take]; omega
    have hnx := ksF_step X.q X.d i q x (numS rm ++ ⟨#[47]⟩) hq hx
    generalize ksF (numS rm ++ ⟨#[47]⟩) (X.q.take i) (X.d.take i) = a at q3 hsz hnx
    have z1 : (a ++ numS 0).size = a.size + (numS 0).size := ByteArray.size_append
    have z2 : (a ++ numS 0 ++ ⟨#[91]⟩).size = a.size + (numS 0).size + 1 := by rw [ByteArray.size_append, z1, h91]
    have z3 : (a ++ numS 0 ++ ⟨#[91]⟩ ++ ⟨#[93]⟩).size = a.size + (numS 0).size + 1 + 1 := by rw [ByteArray.size_append, z2, h93]
    have z4 : (a ++ numS 0 ++ ⟨#[91]⟩ ++ ⟨#[93]⟩ ++ msgsS q).size = a.size + (numS 0).size + 1 + 1 + (msgsS q).size := by rw [ByteArray.size_append, z3]
    simp -implicitDefEqProofs (disch := first | omega | (simp only [St.set_n, St.up_n, List.length_cons, List.length_nil]; omega)) only [go_sem, Nat.reduceAdd, Nat.reduceMul, Nat.reduceSub, Int.reduceAdd, Int.reduceMul, Int.reduceSub, Int.reduceNeg, Int.reduceToNat, q1, q3, q4, hlt, hm1, ml, mq, md, gl, gq, gd]
    refine callF_of (num_of 0 (by omega) ?_)
    simp -implicitDefEqProofs (disch := first | omega | (simp only [St.set_n, St.up_n, List.length_cons, List.length_nil]; omega)) only [go_sem, Nat.reduceAdd, Nat.reduceMul, Nat.reduceSub, Int.reduceAdd, Int.reduceMul, Int.reduceSub, Int.reduceNeg, Int.reduceToNat, q1, q3, q4, hlt, hm1, ml, mq, md, gl, gq, gd, sb_add (x := a) (y := numS 0) (by omega), sb_add (x := a ++ numS 0) (y := ⟨#[91]⟩) (by omega)]
    refine loop_rule (fun m' e s' => ∃ a', m' = 0 ∧ KyF n i σ.n a' e ∧ e.v 5 = .int .i64 0 ∧ a' = a ++ numS 0 ++ ⟨#[91]⟩ ∧ s' = s) 0 ?_ ?_
    · exact ⟨_, rfl, ⟨by simp -implicitDefEqProofs (disch := first | omega | (simp only [St.set_n, St.up_n, List.length_cons, List.length_nil]; omega)) only [go_sem, Nat.reduceAdd, Nat.reduceMul, Nat.reduceSub, Int.reduceAdd, Int.reduceMul, Int.reduceSub, Int.reduceNeg, Int.reduceToNat, q1], by simp -implicitDefEqProofs (disch := first | omega | (simp only [St.set_n, St.up_n, List.length_cons, List.length_nil]; omega)) only [go_sem, Nat.reduceAdd, Nat.reduceMul, Nat.reduceSub, Int.reduceAdd, Int.reduceMul, Int.reduceSub, Int.reduceNeg, Int.reduceToNat], by simp -implicitDefEqProofs (disch := first | omega | (simp only [St.set_n, St.up_n, List.length_cons, List.length_nil]; omega)) only [go_sem, Nat.reduceAdd, Nat.reduceMul, Nat.reduceSub, Int.reduceAdd, Int.reduceMul, Int.reduceSub, Int.reduceNeg, Int.reduceToNat, q4], by simp -implicitDefEqProofs (disch := first | omega | (simp only [St.set_n, St.up_n, List.length_cons, List.length_nil]; omega)) only [go_sem, Nat.reduceAdd, Nat.reduceMul, Nat.reduceSub, Int.reduceAdd, Int.reduceMul, Int.reduceSub, Int.reduceNeg, Int.reduceToNat, hd]⟩, by simp -implicitDefEqProofs (disch := first | omega | (simp only [St.set_n, St.up_n, List.length_cons, List.length_nil]; omega)) only [go_sem, Nat.reduceAdd, Nat.reduceMul, Nat.reduceSub, Int.reduceAdd, Int.reduceMul, Int.reduceSub, Int.reduceNeg, Int.reduceToNat], rfl, rfl⟩
    rintro m' e s' hws ⟨a', hm', ⟨q1, q3, q4, hd⟩, q5, rfl, rfl⟩
    simp -implicitDefEqProofs (disch := first | omega | (simp only [St.set_n, St.up_n, List.length_cons, List.length_nil]; omega)) only [go_sem, Nat.reduceAdd, Nat.reduceMul, Nat.reduceSub, Int.reduceAdd, Int.reduceMul, Int.reduceSub, Int.reduceNeg, Int.reduceToNat, q1, q3, q4, q5, hlt, hm1, ml, mq, md, gl, gq, gd, sb_add (x := a ++ numS 0 ++ ⟨#[91]⟩) (y := ⟨#[93]⟩) (by omega)]
    refine effD_plan [0, 1, 0, 4, 0, 28, 60, 124, 255, 0, 512, 0, 3584, 7680, 15872, 32508, 65535, 131071] [0, 1, 2, 3, 4, 5, 6, 8, 9, 10, 11, 12, 13, 14, 16, 17] (.eag 0 (.eag 1 (.eag 2 (.eagq 3 (.eag 4 (.eag 5 (.eagq 6 (.eag 9 (.eagq 10 (.eag 11 (.eag 12 (.eagq 13 (.eagq 14 (.alt 7 [10, 13, 14] (.eag 8 (.alt 15 [] (.eag 16 (.eag 17 .fin)) .stop)) .stop)))))))))))))) (by kernel_rfl) ?_
    simp -implicitDefEqProofs (disch := first | omega | (simp only [St.set_n, St.up_n, List.length_cons, List.length_nil]; omega)) only [go_sem, Nat.reduceAdd, Nat.reduceMul, Nat.reduceSub, Int.reduceAdd, Int.reduceMul, Int.reduceSub, Int.reduceNeg, Int.reduceToNat, q1, q3, q4, q5, hlt, hm1, ml, mq, md, gl, gq, gd, sb_add (x := a ++ numS 0 ++ ⟨#[91]⟩) (y := ⟨#[93]⟩) (by omega)]
    refine callF_of (msgs_of hqs (by omega) how ?_)
    simp -implicitDefEqProofs (disch := first | omega | (simp only [St.set_n, St.up_n, List.length_cons, List.length_nil]; omega)) only [go_sem, Nat.reduceAdd, Nat.reduceMul, Nat.reduceSub, Int.reduceAdd, Int.reduceMul, Int.reduceSub, Int.reduceNeg, Int.reduceToNat, q1, q3, q4, q5, hlt, hm1, ml, mq, md, gl, gq, gd, sb_add (x := a ++ numS 0 ++ ⟨#[91]⟩ ++ ⟨#[93]⟩) (y := msgsS q) (by omega)]
    have em : min x 9999 = (x.toNat : Int) := by omega
    rw [em]
    refine callF_of (num_of x.toNat (by omega) ?_)
    simp -implicitDefEqProofs (disch := first | omega | (simp only [St.set_n, St.up_n, List.length_cons, List.length_nil]; omega)) only [go_sem, Nat.reduceAdd, Nat.reduceMul, Nat.reduceSub, Int.reduceAdd, Int.reduceMul, Int.reduceSub, Int.reduceNeg, Int.reduceToNat, q1, q3, q4, q5, hlt, hm1, ml, mq, md, gl, gq, gd, sb_add (x := a ++ numS 0 ++ ⟨#[91]⟩ ++ ⟨#[93]⟩ ++ msgsS q) (y := numS x.toNat) (by omega)]
    refine ⟨n - (i + 1), by omega, i + 1, rfl, by omega, ⟨by simp -implicitDefEqProofs (disch := first | omega | (simp only [St.set_n, St.up_n, List.length_cons, List.length_nil]; omega)) only [go_sem, Nat.reduceAdd, Nat.reduceMul, Nat.reduceSub, Int.reduceAdd, Int.reduceMul, Int.reduceSub, Int.reduceNeg, Int.reduceToNat, q1], ?_, by simp -implicitDefEqProofs (disch := first | omega | (simp only [St.set_n, St.up_n, List.length_cons, List.length_nil]; omega)) only [go_sem, Nat.reduceAdd, Nat.reduceMul, Nat.reduceSub, Int.reduceAdd, Int.reduceMul, Int.reduceSub, Int.reduceNeg, Int.reduceToNat]; simp, by simp -implicitDefEqProofs (disch := first | omega | (simp only [St.set_n, St.up_n, List.length_cons, List.length_nil]; omega)) only [go_sem, Nat.reduceAdd, Nat.reduceMul, Nat.reduceSub, Int.reduceAdd, Int.reduceMul, Int.reduceSub, Int.reduceNeg, Int.reduceToNat, hd]⟩⟩
    rw [← hnx]
    simp -implicitDefEqProofs (disch := first | omega | (simp only [St.set_n, St.up_n, List.length_cons, List.length_nil]; omega)) only [go_sem, Nat.reduceAdd, Nat.reduceMul, Nat.reduceSub, Int.reduceAdd, Int.reduceMul, Int.reduceSub, Int.reduceNeg, Int.reduceToNat]
    rfl
  · have hiN : i = n := by omega
    subst hiN
    rw [List.take_of_length_le (by have := h.lq; omega), List.take_of_length_le (by have := h.ld; omega)] at q3
    have hsz := ksF_size X.q X.d (numS rm ++ ⟨#[47]⟩) h.sm h.dd
    have hsz0 : (numS rm ++ (⟨#[47]⟩ : ByteArray)).size ≤ 9 := by rw [ByteArray.size_append, h47]; omega
    have hlq := h.lq
    have hmn := msgsS_size (q := []) (by simp) (by simp)
    simp -implicitDefEqProofs (disch := first | omega | (simp only [St.set_n, St.up_n, List.length_cons, List.length_nil]; omega)) only [go_sem, Nat.reduceAdd, Nat.reduceMul, Nat.reduceSub, Int.reduceAdd, Int.reduceMul, Int.reduceSub, Int.reduceNeg, Int.reduceToNat, q1, q3, q4, hlt, hm1]
    refine loop_rule (fun m' e s' => m' = 0 ∧ e.v 1 = .pointer (some ⟨σ.n, 0, none⟩) ∧ e.v 3 = .string (ksF (numS rm ++ ⟨#[47]⟩) X.q X.d) ∧ e.v 6 = .slice none 0 0 ∧ e.v 7 = .int .i64 0 ∧ e.d = [] ∧ s' = s) 0 ?_ ?_
    · exact ⟨rfl, by simp -implicitDefEqProofs (disch := first | omega | (simp only [St.set_n, St.up_n, List.length_cons, List.length_nil]; omega)) only [go_sem, Nat.reduceAdd, Nat.reduceMul, Nat.reduceSub, Int.reduceAdd, Int.reduceMul, Int.reduceSub, Int.reduceNeg, Int.reduceToNat, q1], by simp -implicitDefEqProofs (disch := first | omega | (simp only [St.set_n, St.up_n, List.length_cons, List.length_nil]; omega)) only [go_sem, Nat.reduceAdd, Nat.reduceMul, Nat.reduceSub, Int.reduceAdd, Int.reduceMul, Int.reduceSub, Int.reduceNeg, Int.reduceToNat, q3], by simp -implicitDefEqProofs (disch := first | omega | (simp only [St.set_n, St.up_n, List.length_cons, List.length_nil]; omega)) only [go_sem, Nat.reduceAdd, Nat.reduceMul, Nat.reduceSub, Int.reduceAdd, Int.reduceMul, Int.reduceSub, Int.reduceNeg, Int.reduceToNat], by simp -implicitDefEqProofs (disch := first | omega | (simp only [St.set_n, St.up_n, List.length_cons, List.length_nil]; omega)) only [go_sem, Nat.reduceAdd, Nat.reduceMul, Nat.reduceSub, Int.reduceAdd, Int.reduceMul, Int.reduceSub, Int.reduceNeg, Int.reduceToNat], by simp -implicitDefEqProofs (disch := first | omega | (simp only [St.set_n, St.up_n, List.length_cons, List.length_nil]; omega)) only [go_sem, Nat.reduceAdd, Nat.reduceMul, Nat.reduceSub, Int.reduceAdd, Int.reduceMul, Int.reduceSub, Int.reduceNeg, Int.reduceToNat, hd], rfl⟩
    rintro m' e s' hws ⟨hm', q1, q3, q6, q7, hd, rfl⟩
    simp -implicitDefEqProofs (disch := first | omega | (simp only [St.set_n, St.up_n, List.length_cons, List.length_nil]; omega)) only [go_sem, Nat.reduceAdd, Nat.reduceMul, Nat.reduceSub, Int.reduceAdd, Int.reduceMul, Int.reduceSub, Int.reduceNeg, Int.reduceToNat, q1, q3, q6, q7, hm1]
    refine callF_of (msgs_nil ?_)
    simp -implicitDefEqProofs (disch := first | omega | (simp only [St.set_n, St.up_n, List.length_cons, List.length_nil]; omega)) only [go_sem, Nat.reduceAdd, Nat.reduceMul, Nat.reduceSub, Int.reduceAdd, Int.reduceMul, Int.reduceSub, Int.reduceNeg, Int.reduceToNat, q1, q3, q6, q7, hm1, sb_add (x := ksF (numS rm ++ ⟨#[47]⟩) X.q X.d) (y := msgsS []) (by omega), hd]
    exact hK _ (by omega) hk1
end
end Go.Proofs.YtdbgeahmhfocaaaGreat

/- Keys: where a search is, by a walk. -/
namespace Go.Proofs.YtdbgeahmhfocaaaGreat
set_option linter.unusedSimpArgs false
set_option linter.unusedVariables false
set_option maxRecDepth 100000
open Go Go.RowKit
def strs (l : List ByteArray) : List Value := l.map .string
theorem strs_get {l : List ByteArray} {i : Nat} {b : ByteArray} (h : l[i]? = some b) (sp : List Value) : (strs l ++ sp)[i]? = some (.string b) := by
  have hl := (List.getElem?_eq_some_iff.1 h).1
  rw [List.getElem?_append_left (by simpa [strs] using hl)]
  simp [strs, h]
/-- A search in memory. -/
structure SrI (s : St) (p : Nat) (l : List Cl) (D : List Bool) (dead : List ByteArray) (lv dv xv : Value) : Prop where
  root : s.m p = some (.raw (.cells #[lv, dv, xv] 122 (0, 0)))
  ol : Own s 69 15 (flat fC l) l.length lv
  od : Own s 4 1 (bools D) D.length dv
  ox : Own s 9 1 (strs dead) dead.length xv
theorem SrI.keep {s s' : St} {p : Nat} {l : List Cl} {D : List Bool} {dead : List ByteArray} {lv dv xv : Value} (h : SrI s p l D dead lv dv xv) (hk : ∀ c o, s.m c = some (.raw o) → s'.m c = some (.raw o)) : SrI s' p l D dead lv dv xv :=
  ⟨hk _ _ h.root, h.ol.keepR fun b o _ ho => hk b o ho, h.od.keepR fun b o _ ho => hk b o ho, h.ox.keepR fun b o _ ho => hk b o ho⟩
def d1F (a : ByteArray) (b : Bool) : ByteArray := a ++ (if b then ⟨#[49]⟩ else ⟨#[48]⟩)
def dnS (D : List Bool) : ByteArray := D.foldl d1F ⟨#[]⟩
def skS (D : List Bool) (rm : Nat) (X : XS) : ByteArray := dnS D ++ keyS rm X
theorem d1F_size (a : ByteArray) (b : Bool) : (d1F a b).size = a.size + 1 := by
  unfold d1F
  rw [ByteArray.size_append]
  cases b <;> rfl
theorem dns_size : ∀ (D : List Bool) (a : ByteArray), (D.foldl d1F a).size = a.size + D.length
  | [], a => by simp
  | b :: D, a => by
    have := dns_size D (d1F a b)
    simp only [List.foldl_cons, List.length_cons, d1F_size] at this ⊢
    omega
theorem keyS_size {n rm : Nat} {s : St} {X : XS} {lv qv dv : Value} {ws : List Value} (h : StOk n s X lv qv dv ws) (hn : n ≤ 8) (hr : rm ≤ 16) : (keyS rm X).size ≤ 40000 := by
  have h1 := ksF_size X.q X.d (numS rm ++ ⟨#[47]⟩) h.sm h.dd
  have h2 := numS_le (n := rm) (by omega)
  have h47 : (⟨#[47]⟩ : ByteArray).size = 1 := rfl
  have h3 := msgsS_size (q := []) (by simp) (by simp)
  have h4 := h.lq
  rw [ByteArray.size_append, h47] at h1
  unfold keyS
  rw [ByteArray.size_append]
  omega
section
variable {B : World} {σ : St} {K : Value → St → Prop}
structure SkF (n i p bx : Nat) (a : ByteArray) (e : Fr) : Prop where
  v0 : e.v 0 = .pointer (some ⟨p, 0, none⟩)
  v3 : e.v 3 = .pointer (some ⟨bx, 0, none⟩)
  v5 : e.v 5 = .string a
  v6 : e.v 6 = .int .i64 i
  d : e.d = []
theorem foldl_take {D : List Bool} {i : Nat} {b : Bool} {a : ByteArray} (h : D[i]? = some b) : d1F ((D.take i).foldl d1F a) b = (D.take (i + 1)).foldl d1F a := by
  rw [List.take_add_one, h]
  simp
set_option maxHeartbeats 4000000 in
theorem skey_of {p n rm : Nat} {l : List Cl} {D : List Bool} {dead : List ByteArray} {X : XS} {l0 dv xv lv qv ev : Value} {ws : List Value} (hs : SrI σ p l D dead l0 dv xv) (hD : D.length ≤ 1000) (h : StOk n σ X lv qv ev ws) (hn : n ≤ 8) (hr : rm ≤ 16) (hK : ∀ τ, σ.n ≤ τ.n → (∀ c y, σ.m c = some y → τ.m c = some y) → K (.string (skS D rm X)) τ) :
    Fn Tryz.prog B 70 #[.pointer (some ⟨p, 0, none⟩), stV rm lv qv ev] σ K := by
  obtain ⟨Al, Cl, rfl, hCl⟩ := h.ol.is
  obtain ⟨Aq, Cq, rfl, hCq⟩ := h.oq.is
  obtain ⟨Ad, Cd, rfl, hCd⟩ := h.od.is
  obtain ⟨A, C, rfl, hC⟩ := hs.od.is
  refine Fn.of is70 (by simp) fun hwf => ?_
  have hB := hwf.1
  unfold stV
  simp only [b70, Tryz.f70, Option.getD_some]
  simp -implicitDefEqProofs (disch := first | omega | (simp only [St.set_n, St.up_n, List.length_cons, List.length_nil]; omega)) only [go_sem, Nat.reduceAdd, Nat.reduceMul, Nat.reduceSub, Int.reduceAdd, Int.reduceMul, Int.reduceSub, Int.reduceNeg, Int.reduceToNat]
  have key : ∀ s1, s1 = (σ.set σ.n (.raw (.cells #[.slice Al n Cl, .int .i64 rm, .slice Aq n Cq, .slice Ad n Cd, .slice none 0 0, .slice none 0 0, .slice none 0 0, .int .i64 0] 37 (0, 0)))).up (σ.n + 1) →
      (∀ c y, σ.m c = some y → s1.m c = some y) ∧ s1.m σ.n = some (.raw (.cells #[.slice Al n Cl, .int .i64 rm, .slice Aq n Cq, .slice Ad n Cd, .slice none 0 0, .slice none 0 0, .slice none 0 0, .int .i64 0] 37 (0, 0))) ∧ σ.n < s1.n := by
    rintro s1 rfl
    exact ⟨fun c y hx => by
      have := (hwf.2 _ _ hx).2
      simp -implicitDefEqProofs (disch := first | omega | (simp only [St.set_n, St.up_n, List.length_cons, List.length_nil]; omega)) only [go_sem, Nat.reduceAdd, Nat.reduceMul, Nat.reduceSub, Int.reduceAdd, Int.reduceMul, Int.reduceSub, Int.reduceNeg, Int.reduceToNat, hx], by simp -implicitDefEqProofs (disch := first | omega | (simp only [St.set_n, St.up_n, List.length_cons, List.length_nil]; omega)) only [go_sem, Nat.reduceAdd, Nat.reduceMul, Nat.reduceSub, Int.reduceAdd, Int.reduceMul, Int.reduceSub, Int.reduceNeg, Int.reduceToNat], by simp only [St.up_n]; omega⟩
  obtain ⟨hk1, hm1, hn1⟩ := key _ rfl
  generalize (σ.set σ.n (.raw (.cells #[.slice Al n Cl, .int .i64 rm, .slice Aq n Cq, .slice Ad n Cd, .slice none 0 0, .slice none 0 0, .slice none 0 0, .int .i64 0] 37 (0, 0)))).up (σ.n + 1) = s1 at hk1 hm1 hn1 ⊢
  have h1 := h.keep (s' := s1) fun c o ho => hk1 c _ ho
  have hs1 := hs.keep (s' := s1) fun c o ho => hk1 c _ ho
  have hroot := hs1.root
  refine loop_rule (fun m e s => ∃ i : Nat, m = D.length - i ∧ i ≤ D.length ∧ SkF n i p σ.n ((D.take i).foldl d1F ⟨#[]⟩) e ∧ s = s1) D.length ?_ ?_
  · exact ⟨0, by omega, by omega, ⟨by simp -implicitDefEqProofs (disch := first | omega | (simp only [St.set_n, St.up_n, List.length_cons, List.length_nil]; omega)) only [go_sem, Nat.reduceAdd, Nat.reduceMul, Nat.reduceSub, Int.reduceAdd, Int.reduceMul, Int.reduceSub, Int.reduceNeg, Int.reduceToNat], by first | (simp -implicitDefEqProofs (disch := first | omega | (simp only [St.set_n, St.up_n, List.length_cons, List.length_nil]; omega)) only [go_sem, Nat.reduceAdd, Nat.reduceMul, Nat.reduceSub, Int.reduceAdd, Int.reduceMul, Int.reduceSub, Int.reduceNeg, Int.reduceToNat]; done) | (simp -implicitDefEqProofs (disch := first | omega | (simp only [St.set_n, St.up_n, List.length_cons, List.length_nil]; omega)) only [go_sem, Nat.reduceAdd, Nat.reduceMul, Nat.reduceSub, Int.reduceAdd, Int.reduceMul, Int.reduceSub, Int.reduceNeg, Int.reduceToNat]; rfl), by first | (simp -implicitDefEqProofs (disch := first | omega | (simp only [St.set_n, St.up_n, List.length_cons, List.length_nil]; omega)) only [go_sem, Nat.reduceAdd, Nat.reduceMul, Nat.reduceSub, Int.reduceAdd, Int.reduceMul, Int.reduceSub, Int.reduceNeg, Int.reduceToNat]; done) | (simp -implicitDefEqProofs (disch := first | omega | (simp only [St.set_n, St.up_n, List.length_cons, List.length_nil]; omega)) only [go_sem, Nat.reduceAdd, Nat.reduceMul, Nat.reduceSub, Int.reduceAdd, Int.reduceMul, Int.reduceSub, Int.reduceNeg, Int.reduceToNat]; rfl), by first | (simp -implicitDefEqProofs (disch := first | omega | (simp only [St.set_n, St.up_n, List.length_cons, List.length_nil]; omega)) only [go_sem, Nat.reduceAdd, Nat.reduceMul, Nat.reduceSub, Int.reduceAdd, Int.reduceMul, Int.reduceSub, Int.reduceNeg, Int.reduceToNat]; done) | (simp -implicitDefEqProofs (disch := first | omega | (simp only [St.set_n, St.up_n, List.length_cons, List.length_nil]; omega)) only [go_sem, Nat.reduceAdd, Nat.reduceMul, Nat.reduceSub, Int.reduceAdd, Int.reduceMul, Int.reduceSub, Int.reduceNeg, Int.reduceToNat]; rfl), by simp -implicitDefEqProofs (disch := first | omega | (simp only [St.set_n, St.up_n, List.length_cons, List.length_nil]; omega)) only [go_sem, Nat.reduceAdd, Nat.reduceMul, Nat.reduceSub, Int.reduceAdd, Int.reduceMul, Int.reduceSub, Int.reduceNeg, Int.reduceToNat]⟩, rfl⟩
  rintro m e s hws ⟨i, hm, hi, ⟨q0, q3, q5, q6, hd⟩, hss⟩
  subst hss
  by_cases hlt : (i : Int) < D.length
  · obtain ⟨x, hx⟩ : ∃ x, D[i]? = some x := ⟨D[i]'(by omega), List.getElem?_eq_getElem (by omega)⟩
    obtain ⟨b, c1, sp, e1, hc1, m1, _, _⟩ := hs1.od.has (by omega)
    cases e1
    have g0 := bools_get hx sp
    have hsz := dns_size (D.take i) ⟨#[]⟩
    have he : (⟨#[]⟩ : ByteArray).size = 0 := rfl
    have hltk : (D.take i).length ≤ 1000 := by rw [List.length_take]; omega
    have hnx := foldl_take (a := ⟨#[]⟩) hx
    have h49 : (⟨#[49]⟩ : ByteArray).size = 1 := rfl
    have h48 : (⟨#[48]⟩ : ByteArray).size = 1 := rfl
    generalize (D.take i).foldl d1F ⟨#[]⟩ = a at q5 hsz hnx
    cases x with
    | true =>
      have e : a ++ ⟨#[49]⟩ = d1F a true := rfl
      simp -implicitDefEqProofs (disch := first | omega | (simp only [St.set_n, St.up_n, List.length_cons, List.length_nil]; omega)) only [go_sem, Nat.reduceAdd, Nat.reduceMul, Nat.reduceSub, Int.reduceAdd, Int.reduceMul, Int.reduceSub, Int.reduceNeg, Int.reduceToNat, q0, q3, q5, q6, hlt, hroot, m1, g0, sb_add (x := a) (y := ⟨#[49]⟩) (by omega)]
      rw [e, hnx]
      exact ⟨D.length - (i + 1), by omega, i + 1, rfl, by omega, ⟨by simp -implicitDefEqProofs (disch := first | omega | (simp only [St.set_n, St.up_n, List.length_cons, List.length_nil]; omega)) only [go_sem, Nat.reduceAdd, Nat.reduceMul, Nat.reduceSub, Int.reduceAdd, Int.reduceMul, Int.reduceSub, Int.reduceNeg, Int.reduceToNat, q0], by simp -implicitDefEqProofs (disch := first | omega | (simp only [St.set_n, St.up_n, List.length_cons, List.length_nil]; omega)) only [go_sem, Nat.reduceAdd, Nat.reduceMul, Nat.reduceSub, Int.reduceAdd, Int.reduceMul, Int.reduceSub, Int.reduceNeg, Int.reduceToNat, q3], by simp -implicitDefEqProofs (disch := first | omega | (simp only [St.set_n, St.up_n, List.length_cons, List.length_nil]; omega)) only [go_sem, Nat.reduceAdd, Nat.reduceMul, Nat.reduceSub, Int.reduceAdd, Int.reduceMul, Int.reduceSub, Int.reduceNeg, Int.reduceToNat], by simp -implicitDefEqProofs (disch := first | omega | (simp only [St.set_n, St.up_n, List.length_cons, List.length_nil]; omega)) only [go_sem, Nat.reduceAdd, Nat.reduceMul, Nat.reduceSub, Int.reduceAdd, Int.reduceMul, Int.reduceSub, Int.reduceNeg, Int.reduceToNat]; simp, by simp -implicitDefEqProofs (disch := first | omega | (simp only [St.set_n, St.up_n, List.length_cons, List.length_nil]; omega)) only [go_sem, Nat.reduceAdd, Nat.reduceMul, Nat.reduceSub, Int.reduceAdd, Int.reduceMul, Int.reduceSub, Int.reduceNeg, Int.reduceToNat, hd]⟩⟩
    | false =>
      have e : a ++ ⟨#[48]⟩ = d1F a false := rfl
      simp -implicitDefEqProofs (disch := first | omega | (simp only [St.set_n, St.up_n, List.length_cons, List.length_nil]; omega)) only [go_sem, Nat.reduceAdd, Nat.reduceMul, Nat.reduceSub, Int.reduceAdd, Int.reduceMul, Int.reduceSub, Int.reduceNeg, Int.reduceToNat, q0, q3, q5, q6, hlt, hroot, m1, g0, sb_add (x := a) (y := ⟨#[48]⟩) (by omega)]
      rw [e, hnx]
      exact ⟨D.length - (i + 1), by omega, i + 1, rfl, by omega, ⟨by simp -implicitDefEqProofs (disch := first | omega | (simp only [St.set_n, St.up_n, List.length_cons, List.length_nil]; omega)) only [go_sem, Nat.reduceAdd, Nat.reduceMul, Nat.reduceSub, Int.reduceAdd, Int.reduceMul, Int.reduceSub, Int.reduceNeg, Int.reduceToNat, q0], by simp -implicitDefEqProofs (disch := first | omega | (simp only [St.set_n, St.up_n, List.length_cons, List.length_nil]; omega)) only [go_sem, Nat.reduceAdd, Nat.reduceMul, Nat.reduceSub, Int.reduceAdd, Int.reduceMul, Int.reduceSub, Int.reduceNeg, Int.reduceToNat, q3], by simp -implicitDefEqProofs (disch := first | omega | (simp only [St.set_n, St.up_n, List.length_cons, List.length_nil]; omega)) only [go_sem, Nat.reduceAdd, Nat.reduceMul, Nat.reduceSub, Int.reduceAdd, Int.reduceMul, Int.reduceSub, Int.reduceNeg, Int.reduceToNat], by simp -implicitDefEqProofs (disch := first | omega | (simp only [St.set_n, St.up_n, List.length_cons, List.length_nil]; omega)) only [go_sem, Nat.reduceAdd, Nat.reduceMul, Nat.reduceSub, Int.reduceAdd, Int.reduceMul, Int.reduceSub, Int.reduceNeg, Int.reduceToNat]; simp, by simp -implicitDefEqProofs (disch := first | omega | (simp only [St.set_n, St.up_n, List.length_cons, List.length_nil]; omega)) only [go_sem, Nat.reduceAdd, Nat.reduceMul, Nat.reduceSub, Int.reduceAdd, Int.reduceMul, Int.reduceSub, Int.reduceNeg, Int.reduceToNat, hd]⟩⟩
  · have hi' : i = D.length := by omega
    subst hi'
    rw [List.take_length] at q5
    have hsz := dns_size D ⟨#[]⟩
    have he : (⟨#[]⟩ : ByteArray).size = 0 := rfl
    have hks := keyS_size h hn hr
    simp -implicitDefEqProofs (disch := first | omega | (simp only [St.set_n, St.up_n, List.length_cons, List.length_nil]; omega)) only [go_sem, Nat.reduceAdd, Nat.reduceMul, Nat.reduceSub, Int.reduceAdd, Int.reduceMul, Int.reduceSub, Int.reduceNeg, Int.reduceToNat, q0, q3, q5, q6, hlt, hroot, hm1]
    have e0 : (.agg #[.slice Al n Cl, .int .i64 rm, .slice Aq n Cq, .slice Ad n Cd, .slice none 0 0, .slice none 0 0, .slice none 0 0, .int .i64 0] : Value) = stV rm (.slice Al n Cl) (.slice Aq n Cq) (.slice Ad n Cd) := rfl
    rw [e0]
    refine callF_of (key_of h1 hn hr fun τ hn2 hk2 => ?_)
    simp -implicitDefEqProofs (disch := first | omega | (simp only [St.set_n, St.up_n, List.length_cons, List.length_nil]; omega)) only [go_sem, Nat.reduceAdd, Nat.reduceMul, Nat.reduceSub, Int.reduceAdd, Int.reduceMul, Int.reduceSub, Int.reduceNeg, Int.reduceToNat, q0, q3, q5, q6, hroot, sb_add (x := D.foldl d1F ⟨#[]⟩) (y := keyS rm X) (by omega), hd]
    exact hK _ (by omega) fun c y hc => hk2 c y (hk1 c y hc)
end
end Go.Proofs.YtdbgeahmhfocaaaGreat

/- The document's state: what it does, plainly; copies. -/
namespace Go.Proofs.YtdbgeahmhfocaaaGreat
set_option linter.unusedSimpArgs false
set_option linter.unusedVariables false
set_option maxRecDepth 100000
open Go Go.RowKit
section
variable {B : World} {σ : St} {K : Value → St → Prop}
/-- A copy of a slice: 'append' to an empty literal. -/
theorem appN {P : Program} {s : St} {d : Option Tmp} {K : Fr → St → Prop} {e : Fr} {t xt el : TypeId} {sz bts m b : Nat} {z xv : Value} {ys : List Value} (hwf : s.wf B) (hb : s.m b = some (.raw (.cells #[] el (0, 0)))) (ht : se P t = some (el, sz, bts)) (hxt : kd P xt = .slice) (hz : zr P el = some z) (hzs : z.cells.size = sz) (hb0 : bts ≠ 0)
    (hx : fc B s sz xv = some (m, ys)) (hyl : ys.length = m * sz) (hy1 : ys.all Value.oneCell' = true) (hroom : (2 * m + 768) * bts ≤ 2 ^ 48)
    (hK : ∀ A C σ', m ≤ C → Own σ' el sz ys m (.slice A m C) → (∀ c y, s.m c = some y → c ≠ b → σ'.m c = some y) → (∀ c, blk (.slice A m C) = some c → s.n ≤ c ∨ c = b) → s.n ≤ σ'.n → σ'.wf B → K (e.put d (.slice A m C)) σ') :
    appK P B t xt (.slice (some ⟨b, 0, none⟩) 0 0) xv d K e s := by
  have hbn := (hwf.2 _ _ hb).2
  unfold appK
  refine app_own2 ht (.inr hxt) hz hzs hb0 (cs := []) (n := 0) (Own.of' (sp := []) (by simpa using hb) (by simp) (Nat.le_refl _) (by simp)) hx hyl hy1 (by simpa using hroom) fun v' σ' h1 h2 h3 h4 => ?_
  simp only [List.nil_append, Nat.zero_add] at h1
  obtain ⟨A, C, rfl, hC⟩ := h1.is
  have hbk : ∀ c, blk (.slice A m C) = some c → s.n ≤ c ∨ c = b := fun c hc => by
    rcases h2 c hc with h | h
    · omega
    · simp only [blk, Option.some.injEq] at h; exact .inr h.symm
  refine hK A C σ' hC h1 (fun c y hy hcb => ?_) hbk h4 ⟨by have := hwf.1; omega, fun c x hc => ?_⟩
  · have hcn := (hwf.2 _ _ hy).2
    rw [h3 c fun e => (hbk c e).elim (fun h => by omega) hcb]
    exact hy
  · by_cases e : blk (.slice A m C) = some c
    · rcases h2 c e with h | h
      · have := hwf.1; omega
      · simp only [blk, Option.some.injEq] at h
        subst h
        have := (hwf.2 _ _ hb)
        omega
    · rw [h3 c e] at hc
      have := hwf.2 _ _ hc
      omega
end
def inR (n : Nat) (sub : Int) : Bool := decide (1 ≤ sub ∧ sub ≤ n)
/-- What an operation does. -/
def xDo (n : Nat) (X : XS) (op : COp) : XS × CAn :=
  if inR n op.sub then
    if op.kind = 5 then (X, ⟨0, X.d.getD (op.sub - 1).toNat 0, 0, ⟨#[]⟩, ⟨#[]⟩, false⟩)
    else if (X.q.getD (op.sub - 1).toNat []).length = 0 then (X, anE 7)
    else (⟨X.q.set (op.sub - 1).toNat (X.q.getD (op.sub - 1).toNat []).tail, X.d⟩, ⟨0, 0, 0, ((X.q.getD (op.sub - 1).toNat []).getD 0 m0).topic, ((X.q.getD (op.sub - 1).toNat []).getD 0 m0).pay, ((X.q.getD (op.sub - 1).toNat []).getD 0 m0).kept⟩)
  else (X, anE 4)
section
variable {B : World} {σ : St} {K : Value → St → Prop}
theorem there_of {rm : Int} {lv dv qv : Value} {A : Option Addr} {n C : Nat} {sub : Int} (hlv : ∃ a b c, lv = .slice a b c) (hdv : ∃ a b c, dv = .slice a b c) (hqv : qv = .slice A n C) (hK : ∀ τ, σ.n ≤ τ.n → (∀ c y, σ.m c = some y → τ.m c = some y) → K (.bool (inR n sub)) τ) : Fn Tryz.prog B 9 #[stV rm lv qv dv, .int .i64 sub] σ K := by
  obtain ⟨a1, b1, c1, rfl⟩ := hlv
  obtain ⟨a2, b2, c2, rfl⟩ := hdv
  subst hqv
  refine Fn.of is9 (by simp) fun hwf => ?_
  have hB := hwf.1
  unfold stV
  simp only [b9, Tryz.f9, Option.getD_some]
  have hk1 : ∀ y, ∀ c x, σ.m c = some x → ((σ.set σ.n y).up (σ.n + 1)).m c = some x := fun y c x hx => by
    have := (hwf.2 _ _ hx).2
    simp -implicitDefEqProofs (disch := first | omega | (simp only [St.set_n, St.up_n, List.length_cons, List.length_nil]; omega)) only [go_sem, Nat.reduceAdd, Nat.reduceMul, Nat.reduceSub, Int.reduceAdd, Int.reduceMul, Int.reduceSub, Int.reduceNeg, Int.reduceToNat, hx]
  by_cases h1 : 1 ≤ sub
  · simp -implicitDefEqProofs (disch := first | omega | (simp only [St.set_n, St.up_n, List.length_cons, List.length_nil]; omega)) only [go_sem, Nat.reduceAdd, Nat.reduceMul, Nat.reduceSub, Int.reduceAdd, Int.reduceMul, Int.reduceSub, Int.reduceNeg, Int.reduceToNat, h1]
    by_cases h2 : sub ≤ n
    · have e : inR n sub = true := by unfold inR; rw [decide_eq_true ⟨h1, h2⟩]
      rw [e] at hK
      rw [decide_eq_true h2]
      exact hK _ (by simp only [St.up_n]; omega) (hk1 _)
    · have e : inR n sub = false := by unfold inR; rw [decide_eq_false fun h => h2 h.2]
      rw [e] at hK
      rw [decide_eq_false h2]
      exact hK _ (by simp only [St.up_n]; omega) (hk1 _)
  · have e : inR n sub = false := by unfold inR; rw [decide_eq_false fun h => h1 h.1]
    rw [e] at hK
    simp -implicitDefEqProofs (disch := first | omega | (simp only [St.set_n, St.up_n, List.length_cons, List.length_nil]; omega)) only [go_sem, Nat.reduceAdd, Nat.reduceMul, Nat.reduceSub, Int.reduceAdd, Int.reduceMul, Int.reduceSub, Int.reduceNeg, Int.reduceToNat, h1]
    exact hK _ (by simp only [St.up_n]; omega) (hk1 _)
end
end Go.Proofs.YtdbgeahmhfocaaaGreat

/- The document's state: what it does, by a walk. -/
namespace Go.Proofs.YtdbgeahmhfocaaaGreat
set_option linter.unusedSimpArgs false
set_option linter.unusedVariables false
set_option maxRecDepth 100000
open Go Go.RowKit
section
variable {B : World} {σ : St} {K : Value → St → Prop}
theorem StOk.ones {n : Nat} {s : St} {X : XS} {lv qv dv : Value} {ws : List Value} (h : StOk n s X lv qv dv ws) : ws.all Value.oneCell' = true := by
  rw [List.all_eq_true]
  intro w hw
  obtain ⟨i, hi⟩ := List.getElem?_of_mem hw
  have hl := (List.getElem?_eq_some_iff.1 hi).1
  obtain ⟨q, hq⟩ : ∃ q, X.q[i]? = some q := ⟨X.q[i]'(by have := h.lq; have := h.lw; omega), List.getElem?_eq_getElem _⟩
  obtain ⟨A, C, rfl, _⟩ := (h.hw i w q hi hq).is
  rfl
theorem ones_msg (l : List Mg) : (flat fM l).all Value.oneCell' = true := by
  rw [List.all_eq_true]
  intro x hx
  obtain ⟨c, _, hc⟩ := List.mem_flatMap.1 hx
  simp only [fM, List.mem_cons, List.mem_nil_iff, or_false] at hc
  rcases hc with h | h | h <;> rw [h] <;> rfl
set_option maxHeartbeats 4000000 in
theorem xdo_of {n rm : Nat} {X : XS} {op : COp} {lv qv dv : Value} {ws : List Value} (h : StOk n σ X lv qv dv ws) (hn : n ≤ 8) (hk : op.kind = 4 ∨ op.kind = 5)
    (hK : ∀ qv' ws' τ, StOk n τ (xDo n X op).1 lv qv' dv ws' → σ.n ≤ τ.n → (∀ c y, σ.m c = some y → τ.m c = some y) → K (.tuple #[stV rm lv qv' dv, .agg (fAn (xDo n X op).2).toArray]) τ) :
    Fn Tryz.prog B 71 #[stV rm lv qv dv, .agg (fOp op).toArray] σ K := by
  obtain ⟨Al, Cl, rfl, hCl⟩ := h.ol.is
  obtain ⟨Aq, Cq, rfl, hCq⟩ := h.oq.is
  obtain ⟨Ad, Cd, rfl, hCd⟩ := h.od.is
  refine Fn.of is71 (by simp) fun hwf => ?_
  have hB := hwf.1
  unfold stV fOp
  simp only [b71, Tryz.f71, Option.getD_some]
  have pre : ∀ s1, s1 = ((((σ.set σ.n (.raw (.cells #[.slice Al n Cl, .int .i64 rm, .slice Aq n Cq, .slice Ad n Cd, .slice none 0 0, .slice none 0 0, .slice none 0 0, .int .i64 0] 37 (0, 0)))).set (σ.n + 1) (.raw (.cells #[.int .i64 op.kind, .int .i64 op.sub, .string op.text, .string op.pay, .bool op.keep] 48 (0, 0)))).set (σ.n + 1 + 1) (.raw (.cells #[.slice none 0 0, .int .i64 0, .slice none 0 0, .slice none 0 0, .slice none 0 0, .slice none 0 0, .slice none 0 0, .int .i64 0] 37 (0, 0)))).set (σ.n + 1 + 1 + 1) (.raw (.cells #[.int .i64 0, .int .i64 0, .int .i64 0, .string ⟨#[]⟩, .string ⟨#[]⟩, .bool false] 64 (0, 0)))).up (σ.n + 1 + 1 + 1 + 1) →
      (∀ c y, σ.m c = some y → s1.m c = some y) ∧ s1.m σ.n = some (.raw (.cells #[.slice Al n Cl, .int .i64 rm, .slice Aq n Cq, .slice Ad n Cd, .slice none 0 0, .slice none 0 0, .slice none 0 0, .int .i64 0] 37 (0, 0))) ∧ s1.m (σ.n + 1) = some (.raw (.cells #[.int .i64 op.kind, .int .i64 op.sub, .string op.text, .string op.pay, .bool op.keep] 48 (0, 0))) ∧
      s1.m (σ.n + 1 + 1) = some (.raw (.cells #[.slice none 0 0, .int .i64 0, .slice none 0 0, .slice none 0 0, .slice none 0 0, .slice none 0 0, .slice none 0 0, .int .i64 0] 37 (0, 0))) ∧ s1.m (σ.n + 1 + 1 + 1) = some (.raw (.cells #[.int .i64 0, .int .i64 0, .int .i64 0, .string ⟨#[]⟩, .string ⟨#[]⟩, .bool false] 64 (0, 0))) ∧ s1.n = σ.n + 1 + 1 + 1 + 1 := by
    rintro s1 rfl
    exact ⟨fun c y hx => by
      have := (hwf.2 _ _ hx).2
      simp -implicitDefEqProofs (disch := first | omega | (simp only [St.set_n, St.up_n, List.length_cons, List.length_nil]; omega)) only [go_sem, Nat.reduceAdd, Nat.reduceMul, Nat.reduceSub, Int.reduceAdd, Int.reduceMul, Int.reduceSub, Int.reduceNeg, Int.reduceToNat, hx], by simp -implicitDefEqProofs (disch := first | omega | (simp only [St.set_n, St.up_n, List.length_cons, List.length_nil]; omega)) only [go_sem, Nat.reduceAdd, Nat.reduceMul, Nat.reduceSub, Int.reduceAdd, Int.reduceMul, Int.reduceSub, Int.reduceNeg, Int.reduceToNat], by simp -implicitDefEqProofs (disch := first | omega | (simp only [St.set_n, St.up_n, List.length_cons, List.length_nil]; omega)) only [go_sem, Nat.reduceAdd, Nat.reduceMul, Nat.reduceSub, Int.reduceAdd, Int.reduceMul, Int.reduceSub, Int.reduceNeg, Int.reduceToNat], by simp -implicitDefEqProofs (disch := first | omega | (simp only [St.set_n, St.up_n, List.length_cons, List.length_nil]; omega)) only [go_sem, Nat.reduceAdd, Nat.reduceMul, Nat.reduceSub, Int.reduceAdd, Int.reduceMul, Int.reduceSub, Int.reduceNeg, Int.reduceToNat], by simp -implicitDefEqProofs (disch := first | omega | (simp only [St.set_n, St.up_n, List.length_cons, List.length_nil]; omega)) only [go_sem, Nat.reduceAdd, Nat.reduceMul, Nat.reduceSub, Int.reduceAdd, Int.reduceMul, Int.reduceSub, Int.reduceNeg, Int.reduceToNat], rfl⟩
  rcases hk with hk | hk
  · rw [hk] at pre ⊢
    simp -implicitDefEqProofs (disch := first | omega | (simp only [St.set_n, St.up_n, List.length_cons, List.length_nil]; omega)) only [go_sem, Nat.reduceAdd, Nat.reduceMul, Nat.reduceSub, Int.reduceAdd, Int.reduceMul, Int.reduceSub, Int.reduceNeg, Int.reduceToNat]
    obtain ⟨hk0, p2, p3, p4, p5, pn⟩ := pre _ rfl
    generalize ((((σ.set σ.n (.raw (.cells #[.slice Al n Cl, .int .i64 rm, .slice Aq n Cq, .slice Ad n Cd, .slice none 0 0, .slice none 0 0, .slice none 0 0, .int .i64 0] 37 (0, 0)))).set (σ.n + 1) (.raw (.cells #[.int .i64 4, .int .i64 op.sub, .string op.text, .string op.pay, .bool op.keep] 48 (0, 0)))).set (σ.n + 1 + 1) (.raw (.cells #[.slice none 0 0, .int .i64 0, .slice none 0 0, .slice none 0 0, .slice none 0 0, .slice none 0 0, .slice none 0 0, .int .i64 0] 37 (0, 0)))).set (σ.n + 1 + 1 + 1) (.raw (.cells #[.int .i64 0, .int .i64 0, .int .i64 0, .string ⟨#[]⟩, .string ⟨#[]⟩, .bool false] 64 (0, 0)))).up (σ.n + 1 + 1 + 1 + 1) = s1 at hk0 p2 p3 p4 p5 pn ⊢
    have e0 : (.agg #[.slice Al n Cl, .int .i64 rm, .slice Aq n Cq, .slice Ad n Cd, .slice none 0 0, .slice none 0 0, .slice none 0 0, .int .i64 0] : Value) = stV rm (.slice Al n Cl) (.slice Aq n Cq) (.slice Ad n Cd) := rfl
    rw [e0]
    refine callF_wf (there_of ⟨_, _, _, rfl⟩ ⟨_, _, _, rfl⟩ rfl fun τ hnτ hkτ hwτ => ?_)
    have m2 := hkτ _ _ p2
    have m3 := hkτ _ _ p3
    have m4 := hkτ _ _ p4
    have m5 := hkτ _ _ p5
    have hkσ : ∀ c y, σ.m c = some y → τ.m c = some y := fun c y hx => hkτ c y (hk0 c y hx)
    have hτ := h.keep (s' := τ) fun c o ho => hkσ c _ ho
    have hfin : ∀ (y4 y5 : HP) (c : Nat) (y : HP), σ.m c = some y → ((τ.set (σ.n + 1 + 1) y4).set (σ.n + 1 + 1 + 1) y5).m c = some y := fun y4 y5 c y hx => by
      have := (hwf.2 _ _ hx).2
      have h1 := hkσ c y hx
      simp -implicitDefEqProofs (disch := first | omega | (simp only [St.set_n, St.up_n, List.length_cons, List.length_nil]; omega)) only [go_sem, Nat.reduceAdd, Nat.reduceMul, Nat.reduceSub, Int.reduceAdd, Int.reduceMul, Int.reduceSub, Int.reduceNeg, Int.reduceToNat, h1]
    cases hin : inR n op.sub with
    | false =>
      have hX : xDo n X op = (X, anE 4) := by unfold xDo; rw [hin]; rfl
      rw [hX] at hK
      simp -implicitDefEqProofs (disch := first | omega | (simp only [St.set_n, St.up_n, List.length_cons, List.length_nil]; omega)) only [go_sem, Nat.reduceAdd, Nat.reduceMul, Nat.reduceSub, Int.reduceAdd, Int.reduceMul, Int.reduceSub, Int.reduceNeg, Int.reduceToNat, m2, m3, m4, m5]
      exact hK _ ws _ (h.keep fun c o ho => hfin _ _ c _ ho) (by simp only [St.set_n]; omega) (hfin _ _)
    | true =>
      have hsub : 1 ≤ op.sub ∧ op.sub ≤ n := by unfold inR at hin; exact of_decide_eq_true hin
      obtain ⟨i, hi⟩ : ∃ i : Nat, op.sub = (i : Int) + 1 := ⟨(op.sub - 1).toNat, by omega⟩
      have hiN : i < n := by omega
      have e1 : (i : Int) + 1 - 1 = i := by omega
      have e2 : (op.sub - 1).toNat = i := by omega
      obtain ⟨q, hq⟩ : ∃ q, X.q[i]? = some q := ⟨X.q[i]'(by have := h.lq; omega), List.getElem?_eq_getElem _⟩
      obtain ⟨w, hw⟩ : ∃ w, ws[i]? = some w := ⟨ws[i]'(by have := h.lw; omega), List.getElem?_eq_getElem _⟩
      have hX : xDo n X op = if q.length = 0 then (X, anE 7) else (⟨X.q.set i q.tail, X.d⟩, ⟨0, 0, 0, (q.getD 0 m0).topic, (q.getD 0 m0).pay, (q.getD 0 m0).kept⟩) := by
        have hg : X.q.getD i [] = q := by rw [List.getD_eq_getElem?_getD, hq]; rfl
        unfold xDo
        rw [hin, e2, hg, hk]
        rfl
      rw [hX] at hK
      obtain ⟨bq, cq, spq, eq, hcq, mq0, lq2, _⟩ := h.oq.has (by omega)
      cases eq
      have mq := hkσ _ _ mq0
      have hbqn := (hwf.2 _ _ mq0).2
      have gq : (ws ++ spq)[i]? = some w := by
        rw [List.getElem?_append_left (by have := h.lw; omega)]; exact hw
      have how := hτ.hw i w q hw hq
      obtain ⟨Aw, Cw, rfl, hCw⟩ := how.is
      have hi' : (i : Int) < n := by omega
      rw [hi] at m3
      by_cases hl : q.length = 0
      · rw [if_pos hl] at hK
        simp -implicitDefEqProofs (disch := first | omega | (simp only [St.set_n, St.up_n, List.length_cons, List.length_nil]; omega)) only [go_sem, Nat.reduceAdd, Nat.reduceMul, Nat.reduceSub, Int.reduceAdd, Int.reduceMul, Int.reduceSub, Int.reduceNeg, Int.reduceToNat, m2, m3, m4, m5, e1, mq, gq, hl, hi']
        exact hK _ ws _ (h.keep fun c o ho => hfin _ _ c _ ho) (by simp only [St.set_n]; omega) (hfin _ _)
      · rw [if_neg hl] at hK
        have hl' : ¬ ((q.length : Int) = 0) := by omega
        obtain ⟨bw, cw, spw, ew, hcw, mw0, _, _⟩ := (h.hw i _ q hw hq).has (by omega)
        cases ew
        have hbwn := (hwf.2 _ _ mw0).2
        obtain ⟨x, hx⟩ : ∃ x, q[0]? = some x := ⟨q[0]'(by omega), List.getElem?_eq_getElem (by omega)⟩
        obtain ⟨g0, g1, g2⟩ := mg_cells hx spw
        simp only [Nat.zero_mul, Nat.zero_add] at g0 g1 g2
        have hg0 : q.getD 0 m0 = x := by rw [List.getD_eq_getElem?_getD, hx]; rfl
        rw [hg0] at hK
        simp -implicitDefEqProofs (disch := first | omega | (simp only [St.set_n, St.up_n, List.length_cons, List.length_nil]; omega)) only [go_sem, Nat.reduceAdd, Nat.reduceMul, Nat.reduceSub, Int.reduceAdd, Int.reduceMul, Int.reduceSub, Int.reduceNeg, Int.reduceToNat, m2, m3, m4, m5, e1, mq, gq, hl', hi']
        have hw1 := set_wf1 (y := .raw (.cells #[] 23 (0, 0))) hwτ
        have hk1 : ∀ c y, τ.m c = some y → ((τ.set τ.n (.raw (.cells #[] 23 (0, 0)))).up (τ.n + 1)).m c = some y := fun c y hx => by
          have := (hwτ.2 _ _ hx).2
          simp -implicitDefEqProofs (disch := first | omega | (simp only [St.set_n, St.up_n, List.length_cons, List.length_nil]; omega)) only [go_sem, Nat.reduceAdd, Nat.reduceMul, Nat.reduceSub, Int.reduceAdd, Int.reduceMul, Int.reduceSub, Int.reduceNeg, Int.reduceToNat, hx]
        have hτ1 := hτ.keep (s' := (τ.set τ.n (.raw (.cells #[] 23 (0, 0)))).up (τ.n + 1)) fun c o ho => hk1 c _ ho
        refine appN (s := (τ.set τ.n (.raw (.cells #[] 23 (0, 0)))).up (τ.n + 1)) hw1 (by simp -implicitDefEqProofs (disch := first | omega | (simp only [St.set_n, St.up_n, List.length_cons, List.length_nil]; omega)) only [go_sem, Nat.reduceAdd, Nat.reduceMul, Nat.reduceSub, Int.reduceAdd, Int.reduceMul, Int.reduceSub, Int.reduceNeg, Int.reduceToNat]) se32 kd32 zr23 rfl (by omega) hτ1.oq.fc (by rw [h.lw]; simp) h.ones (by omega) fun A2 C2 s3 hC2 o2 hk3 hb3 hn3 hw3 => ?_
        simp only [St.up_n] at hb3 hn3
        have n2 := hk3 _ _ (hk1 _ _ m2) (by omega)
        have n3 := hk3 _ _ (hk1 _ _ m3) (by omega)
        have n4 := hk3 _ _ (hk1 _ _ m4) (by omega)
        have n5 := hk3 _ _ (hk1 _ _ m5) (by omega)
        obtain ⟨b2, c2, sp2, e2', hc2, mb2, ll2, _⟩ := o2.has (by omega)
        cases e2'
        have hb2 := hb3 b2 rfl
        have hb2n := (hw3.2 _ _ mb2).2
        simp -implicitDefEqProofs (disch := first | omega | (simp only [St.set_n, St.up_n, List.length_cons, List.length_nil]; omega)) only [go_sem, Nat.reduceAdd, Nat.reduceMul, Nat.reduceSub, Int.reduceAdd, Int.reduceMul, Int.reduceSub, Int.reduceNeg, Int.reduceToNat, n2, n3, n4, n5]
        have hw4 := hw3.set (b := σ.n) (.raw (.cells #[.slice Al n Cl, .int .i64 rm, .slice (some ⟨b2, 0, none⟩) n C2, .slice Ad n Cd, .slice none 0 0, .slice none 0 0, .slice none 0 0, .int .i64 0] 37 (0, 0))) (hw3.2 _ _ n2)
        have r2 : (s3.set σ.n (.raw (.cells #[.slice Al n Cl, .int .i64 rm, .slice (some ⟨b2, 0, none⟩) n C2, .slice Ad n Cd, .slice none 0 0, .slice none 0 0, .slice none 0 0, .int .i64 0] 37 (0, 0)))).m σ.n = some (.raw (.cells #[.slice Al n Cl, .int .i64 rm, .slice (some ⟨b2, 0, none⟩) n C2, .slice Ad n Cd, .slice none 0 0, .slice none 0 0, .slice none 0 0, .int .i64 0] 37 (0, 0))) := by simp -implicitDefEqProofs (disch := first | omega | (simp only [St.set_n, St.up_n, List.length_cons, List.length_nil]; omega)) only [go_sem, Nat.reduceAdd, Nat.reduceMul, Nat.reduceSub, Int.reduceAdd, Int.reduceMul, Int.reduceSub, Int.reduceNeg, Int.reduceToNat]
        have hk4 : ∀ c y, s3.m c = some y → c ≠ σ.n → (s3.set σ.n (.raw (.cells #[.slice Al n Cl, .int .i64 rm, .slice (some ⟨b2, 0, none⟩) n C2, .slice Ad n Cd, .slice none 0 0, .slice none 0 0, .slice none 0 0, .int .i64 0] 37 (0, 0)))).m c = some y := fun c y hx hc => by
          rw [St.set_m_ne _ _ hc]; exact hx
        have hn4 : (s3.set σ.n (.raw (.cells #[.slice Al n Cl, .int .i64 rm, .slice (some ⟨b2, 0, none⟩) n C2, .slice Ad n Cd, .slice none 0 0, .slice none 0 0, .slice none 0 0, .int .i64 0] 37 (0, 0)))).n = s3.n := rfl
        generalize s3.set σ.n (.raw (.cells #[.slice Al n Cl, .int .i64 rm, .slice (some ⟨b2, 0, none⟩) n C2, .slice Ad n Cd, .slice none 0 0, .slice none 0 0, .slice none 0 0, .int .i64 0] 37 (0, 0))) = s4 at hw4 r2 hk4 hn4 ⊢
        have r3 := hk4 _ _ n3 (by omega)
        have r4 := hk4 _ _ n4 (by omega)
        have r5 := hk4 _ _ n5 (by omega)
        have rb := hk4 _ _ mb2 (by omega)
        have gb2 : (ws ++ sp2)[i]? = some (.slice (some ⟨bw, 0, none⟩) q.length Cw) := by
          rw [List.getElem?_append_left (by have := h.lw; omega)]; exact hw
        have e1' : (1 : Int) ≤ q.length := by omega
        refine effD_plan [0, 1, 0, 4, 12, 0, 0, 64, 224, 511, 1023] [0, 1, 2, 3, 4, 6, 7, 9] (.eag 0 (.eagq 1 (.eag 2 (.eagq 3 (.eag 4 (.eag 6 (.eag 7 (.alt 5 [1, 3] (.alt 8 [1, 3] (.eag 9 (.alt 10 [] .fin .stop)) .stop) .stop)))))))) (by kernel_rfl) ?_
        simp -implicitDefEqProofs (disch := first | omega | (simp only [St.set_n, St.up_n, List.length_cons, List.length_nil]; omega)) only [go_sem, Nat.reduceAdd, Nat.reduceMul, Nat.reduceSub, Int.reduceAdd, Int.reduceMul, Int.reduceSub, Int.reduceNeg, Int.reduceToNat, r2, r3, r4, r5, rb, e1, gb2, hi', e1']
        have hkσ4 : ∀ c y, σ.m c = some y → s4.m c = some y := fun c y hx => by
          have := (hwf.2 _ _ hx).2
          exact hk4 _ _ (hk3 _ _ (hk1 _ _ (hkσ c y hx)) (by omega)) (by omega)
        have hw5 := set_wf1 (y := .raw (.cells #[] 40 (0, 0))) hw4
        have hk5 : ∀ c y, s4.m c = some y → ((s4.set s4.n (.raw (.cells #[] 40 (0, 0)))).up (s4.n + 1)).m c = some y := fun c y hx => by
          have := (hw4.2 _ _ hx).2
          simp -implicitDefEqProofs (disch := first | omega | (simp only [St.set_n, St.up_n, List.length_cons, List.length_nil]; omega)) only [go_sem, Nat.reduceAdd, Nat.reduceMul, Nat.reduceSub, Int.reduceAdd, Int.reduceMul, Int.reduceSub, Int.reduceNeg, Int.reduceToNat, hx]
        have how5 := (h.hw i _ q hw hq).keepR (σ' := (s4.set s4.n (.raw (.cells #[] 40 (0, 0)))).up (s4.n + 1)) fun b o _ ho => hk5 _ _ (hkσ4 _ _ ho)
        have ed : (flat fM q).drop (1 * 3) = flat fM q.tail := by
          cases q with
          | nil => exact absurd rfl hl
          | cons m r => simp [flat, fM]
        have hfc := own_drop (B := B) how5 (i := 1) (by omega)
        rw [ed] at hfc
        have htl : q.tail.length = q.length - 1 := List.length_tail
        have hq16 := (h.sm q (List.mem_of_getElem? hq)).1
        refine appN (s := (s4.set s4.n (.raw (.cells #[] 40 (0, 0)))).up (s4.n + 1)) hw5 (by simp -implicitDefEqProofs (disch := first | omega | (simp only [St.set_n, St.up_n, List.length_cons, List.length_nil]; omega)) only [go_sem, Nat.reduceAdd, Nat.reduceMul, Nat.reduceSub, Int.reduceAdd, Int.reduceMul, Int.reduceSub, Int.reduceNeg, Int.reduceToNat]) se23 kd23 zr40 rfl (by omega) hfc (by rw [flat_length fM_len, htl]) (ones_msg _) (by omega) fun A6 C6 s6 hC6 o6 hk6 hb6 hn6 hw6 => ?_
        simp only [St.up_n] at hb6 hn6
        have t2 := hk6 _ _ (hk5 _ _ r2) (by omega)
        have t3 := hk6 _ _ (hk5 _ _ r3) (by omega)
        have t4 := hk6 _ _ (hk5 _ _ r4) (by omega)
        have t5 := hk6 _ _ (hk5 _ _ r5) (by omega)
        have tb := hk6 _ _ (hk5 _ _ rb) (by omega)
        have hil : i < (ws ++ sp2).length := by rw [List.length_append, h.lw]; omega
        have tw := hk6 _ _ (hk5 _ _ (hkσ4 _ _ mw0)) (by have := (hw4.2 _ _ (hkσ4 _ _ mw0)).2; omega)
        have e3 : (0 : Int) < q.length := by omega
        simp -implicitDefEqProofs (disch := first | omega | (simp only [St.set_n, St.up_n, List.length_cons, List.length_nil]; omega)) only [go_sem, Nat.reduceAdd, Nat.reduceMul, Nat.reduceSub, Int.reduceAdd, Int.reduceMul, Int.reduceSub, Int.reduceNeg, Int.reduceToNat, t2, t3, t4, t5, tb, tw, e1, gb2, hi', e1', hil, e3, g0, g1, g2]
        refine effD_plan [0, 0, 2, 6, 14, 1, 63] [0, 1, 2, 3, 4] (.eagq 0 (.eag 1 (.eag 2 (.eagq 3 (.eag 4 (.alt 5 [3] (.alt 6 [] .fin .stop) .stop)))))) (by kernel_rfl) ?_
        simp -implicitDefEqProofs (disch := first | omega | (simp only [St.set_n, St.up_n, List.length_cons, List.length_nil]; omega)) only [go_sem, Nat.reduceAdd, Nat.reduceMul, Nat.reduceSub, Int.reduceAdd, Int.reduceMul, Int.reduceSub, Int.reduceNeg, Int.reduceToNat, t2, t3, t4, t5, tb, tw, e1, gb2, hi', e1', hil, e3, g0, g1, g2]
        have hkσ6 : ∀ c y, σ.m c = some y → s6.m c = some y := fun c y hx => by
          have := (hwf.2 _ _ hx).2
          exact hk6 _ _ (hk5 _ _ (hkσ4 c y hx)) (by omega)
        have hset : (ws ++ sp2).set i (.slice A6 (q.length - 1) C6) = ws.set i (.slice A6 (q.length - 1) C6) ++ sp2 := List.set_append_left _ _ (by have := h.lw; omega)
        rw [hset]
        have hf9 : ∀ (y1 y2 y3 : HP) (c : Nat) (y : HP), σ.m c = some y → (((s6.set b2 y1).set (σ.n + 1 + 1) y2).set (σ.n + 1 + 1 + 1) y3).m c = some y := fun y1 y2 y3 c y hx => by
          have := (hwf.2 _ _ hx).2
          have h1 := hkσ6 c y hx
          simp -implicitDefEqProofs (disch := first | omega | (simp only [St.set_n, St.up_n, List.length_cons, List.length_nil]; omega)) only [go_sem, Nat.reduceAdd, Nat.reduceMul, Nat.reduceSub, Int.reduceAdd, Int.reduceMul, Int.reduceSub, Int.reduceNeg, Int.reduceToNat, h1]
        have hf6 : ∀ (y1 y2 y3 : HP) (c : Nat) (y : HP), s6.m c = some y → c ≠ b2 → c ≠ σ.n + 1 + 1 → c ≠ σ.n + 1 + 1 + 1 → (((s6.set b2 y1).set (σ.n + 1 + 1) y2).set (σ.n + 1 + 1 + 1) y3).m c = some y := fun y1 y2 y3 c y hx h1 h2 h3 => by
          rw [St.set_m_ne _ _ h3, St.set_m_ne _ _ h2, St.set_m_ne _ _ h1]; exact hx
        refine hK (.slice (some ⟨b2, 0, none⟩) n C2) (ws.set i (.slice A6 (q.length - 1) C6)) _ ⟨h.ol.keepR fun b o _ ho => hf9 _ _ _ _ _ ho, ?_, h.od.keepR fun b o _ ho => hf9 _ _ _ _ _ ho, by rw [List.length_set]; exact h.lw, by rw [List.length_set]; exact h.lq, h.ld, fun j w' q' hj1 hj2 => ?_, fun q' hq' => ?_, h.dd⟩ (by simp only [St.set_n]; omega) (hf9 _ _ _)
        · refine Own.of' (sp := sp2) (by simp -implicitDefEqProofs (disch := first | omega | (simp only [St.set_n, St.up_n, List.length_cons, List.length_nil]; omega)) only [go_sem, Nat.reduceAdd, Nat.reduceMul, Nat.reduceSub, Int.reduceAdd, Int.reduceMul, Int.reduceSub, Int.reduceNeg, Int.reduceToNat]) (by rw [List.length_set, h.lw]; simp) hC2 (by rw [List.length_append, List.length_set] ; rw [List.length_append] at ll2; exact ll2)
        · by_cases e : j = i
          · subst e
            rw [List.getElem?_set_self (by have := h.lw; omega)] at hj1
            rw [List.getElem?_set_self (by have := h.lq; omega)] at hj2
            cases hj1; cases hj2
            rw [htl]
            refine o6.keepR fun b o hb ho => hf6 _ _ _ _ _ ho (fun e => ?_) (fun e => ?_) fun e => ?_
            · have := hb6 b hb; omega
            · have := hb6 b hb; omega
            · have := hb6 b hb; omega
          · rw [List.getElem?_set_ne (fun e' => e e'.symm)] at hj1 hj2
            exact (h.hw j w' q' hj1 hj2).keepR fun b o _ ho => hf9 _ _ _ _ _ ho
        · rcases List.mem_or_eq_of_mem_set hq' with h1 | h1
          · exact h.sm q' h1
          · subst h1
            obtain ⟨z1, z2⟩ := h.sm q (List.mem_of_getElem? hq)
            exact ⟨by omega, fun m hm => z2 m (List.mem_of_mem_tail hm)⟩
  · rw [hk] at pre ⊢
    simp -implicitDefEqProofs (disch := first | omega | (simp only [St.set_n, St.up_n, List.length_cons, List.length_nil]; omega)) only [go_sem, Nat.reduceAdd, Nat.reduceMul, Nat.reduceSub, Int.reduceAdd, Int.reduceMul, Int.reduceSub, Int.reduceNeg, Int.reduceToNat]
    obtain ⟨hk0, p2, p3, p4, p5, pn⟩ := pre _ rfl
    generalize ((((σ.set σ.n (.raw (.cells #[.slice Al n Cl, .int .i64 rm, .slice Aq n Cq, .slice Ad n Cd, .slice none 0 0, .slice none 0 0, .slice none 0 0, .int .i64 0] 37 (0, 0)))).set (σ.n + 1) (.raw (.cells #[.int .i64 5, .int .i64 op.sub, .string op.text, .string op.pay, .bool op.keep] 48 (0, 0)))).set (σ.n + 1 + 1) (.raw (.cells #[.slice none 0 0, .int .i64 0, .slice none 0 0, .slice none 0 0, .slice none 0 0, .slice none 0 0, .slice none 0 0, .int .i64 0] 37 (0, 0)))).set (σ.n + 1 + 1 + 1) (.raw (.cells #[.int .i64 0, .int .i64 0, .int .i64 0, .string ⟨#[]⟩, .string ⟨#[]⟩, .bool false] 64 (0, 0)))).up (σ.n + 1 + 1 + 1 + 1) = s1 at hk0 p2 p3 p4 p5 pn ⊢
    have e0 : (.agg #[.slice Al n Cl, .int .i64 rm, .slice Aq n Cq, .slice Ad n Cd, .slice none 0 0, .slice none 0 0, .slice none 0 0, .int .i64 0] : Value) = stV rm (.slice Al n Cl) (.slice Aq n Cq) (.slice Ad n Cd) := rfl
    rw [e0]
    refine callF_wf (there_of ⟨_, _, _, rfl⟩ ⟨_, _, _, rfl⟩ rfl fun τ hnτ hkτ hwτ => ?_)
    have m2 := hkτ _ _ p2
    have m3 := hkτ _ _ p3
    have m4 := hkτ _ _ p4
    have m5 := hkτ _ _ p5
    have hkσ : ∀ c y, σ.m c = some y → τ.m c = some y := fun c y hx => hkτ c y (hk0 c y hx)
    have hτ := h.keep (s' := τ) fun c o ho => hkσ c _ ho
    have hfin : ∀ (y4 y5 : HP) (c : Nat) (y : HP), σ.m c = some y → ((τ.set (σ.n + 1 + 1) y4).set (σ.n + 1 + 1 + 1) y5).m c = some y := fun y4 y5 c y hx => by
      have := (hwf.2 _ _ hx).2
      have h1 := hkσ c y hx
      simp -implicitDefEqProofs (disch := first | omega | (simp only [St.set_n, St.up_n, List.length_cons, List.length_nil]; omega)) only [go_sem, Nat.reduceAdd, Nat.reduceMul, Nat.reduceSub, Int.reduceAdd, Int.reduceMul, Int.reduceSub, Int.reduceNeg, Int.reduceToNat, h1]
    cases hin : inR n op.sub with
    | false =>
      have hX : xDo n X op = (X, anE 4) := by unfold xDo; rw [hin]; rfl
      rw [hX] at hK
      simp -implicitDefEqProofs (disch := first | omega | (simp only [St.set_n, St.up_n, List.length_cons, List.length_nil]; omega)) only [go_sem, Nat.reduceAdd, Nat.reduceMul, Nat.reduceSub, Int.reduceAdd, Int.reduceMul, Int.reduceSub, Int.reduceNeg, Int.reduceToNat, m2, m3, m4, m5]
      exact hK _ ws _ (h.keep fun c o ho => hfin _ _ c _ ho) (by simp only [St.set_n]; omega) (hfin _ _)
    | true =>
      have hsub : 1 ≤ op.sub ∧ op.sub ≤ n := by unfold inR at hin; exact of_decide_eq_true hin
      obtain ⟨i, hi⟩ : ∃ i : Nat, op.sub = (i : Int) + 1 := ⟨(op.sub - 1).toNat, by omega⟩
      have hiN : i < n := by omega
      have e1 : (i : Int) + 1 - 1 = i := by omega
      have e2 : (op.sub - 1).toNat = i := by omega
      obtain ⟨x, hx⟩ : ∃ x, X.d[i]? = some x := ⟨X.d[i]'(by have := h.ld; omega), List.getElem?_eq_getElem _⟩
      have hX : xDo n X op = (X, ⟨0, x, 0, ⟨#[]⟩, ⟨#[]⟩, false⟩) := by
        unfold xDo
        rw [hin, e2, List.getD_eq_getElem?_getD, hx, hk]
        rfl
      rw [hX] at hK
      obtain ⟨bd, cd, spd, ed, hcd, md0, _, _⟩ := h.od.has (by omega)
      cases ed
      have md := hkσ _ _ md0
      have hbdn := (hwf.2 _ _ md0).2
      have gd : (ints X.d ++ spd)[i]? = some (.int .i64 x) := ints_get hx spd
      have hi' : (i : Int) < n := by omega
      rw [hi] at m3
      simp -implicitDefEqProofs (disch := first | omega | (simp only [St.set_n, St.up_n, List.length_cons, List.length_nil]; omega)) only [go_sem, Nat.reduceAdd, Nat.reduceMul, Nat.reduceSub, Int.reduceAdd, Int.reduceMul, Int.reduceSub, Int.reduceNeg, Int.reduceToNat, m2, m3, m4, m5, e1, md, gd, hi']
      refine effD_plan [0, 0, 2, 0, 8, 24, 62, 126, 254, 1, 1023] [0, 1, 2, 3, 4, 5, 6, 7, 8] (.eagq 0 (.eag 1 (.eagq 2 (.eag 3 (.eagq 4 (.eag 5 (.eag 6 (.eagq 7 (.eag 8 (.alt 9 [2, 4, 7] (.alt 10 [] .fin .stop) .stop)))))))))) (by kernel_rfl) ?_
      simp -implicitDefEqProofs (disch := first | omega | (simp only [St.set_n, St.up_n, List.length_cons, List.length_nil]; omega)) only [go_sem, Nat.reduceAdd, Nat.reduceMul, Nat.reduceSub, Int.reduceAdd, Int.reduceMul, Int.reduceSub, Int.reduceNeg, Int.reduceToNat, m2, m3, m4, m5, e1, md, gd, hi']
      exact hK _ ws _ (h.keep fun c o ho => hfin _ _ c _ ho) (by simp only [St.set_n]; omega) (hfin _ _)
end
end Go.Proofs.YtdbgeahmhfocaaaGreat

/- Histories: when they are right: plain laws. -/
namespace Go.Proofs.YtdbgeahmhfocaaaGreat
set_option linter.unusedSimpArgs false
set_option linter.unusedVariables false
open Go Go.RowKit

theorem take_snoc' {α : Type} {L : List α} {i : Nat} {x : α} (h : L[i]? = some x) : L.take (i + 1) = L.take i ++ [x] := by
  rw [List.take_add_one, h]; rfl
theorem cnt_take_succ {l : List Cl} {i : Nat} {c : Cl} (h : l[i]? = some c) (t : Int) : cnt (l.take (i + 1)) t = if c.th = t then cnt (l.take i) t + 1 else cnt (l.take i) t := by
  rw [take_snoc' h, cnt_append]
structure OkC (l : List Cl) (i : Nat) (c : Cl) : Prop where
  f1 : 1 ≤ c.fr
  f2 : c.fr < c.to
  inc : ∀ d, 0 < i → l[i - 1]? = some d → d.fr < c.fr
  ne : ∀ (k : Nat) (d : Cl), k < i → l[k]? = some d → d.to ≠ c.to ∧ d.to ≠ c.fr ∧ d.fr ≠ c.to
  th : ∀ (k : Nat) (d : Cl), k < i → l[k]? = some d → d.th = c.th → d.to < c.fr
  pl : c.pl = cnt (l.take i) c.th
def Rt (l : List Cl) : Prop := ∀ (i : Nat) (c : Cl), l[i]? = some c → OkC l i c
/-- Right so far. -/
def RtTo (l : List Cl) (n : Nat) : Prop := ∀ (i : Nat) (c : Cl), i < n → l[i]? = some c → OkC l i c
theorem RtTo.all {l : List Cl} (h : RtTo l l.length) : Rt l := fun i c hc => h i c (List.getElem?_eq_some_iff.1 hc).1 hc
theorem RtTo.succ {l : List Cl} {n : Nat} {c : Cl} (h : RtTo l n) (hc : l[n]? = some c) (ho : OkC l n c) : RtTo l (n + 1) := fun i d hi hd => by
  by_cases e : i = n
  · subst e; rw [hc] at hd; cases hd; exact ho
  · exact h i d (by omega) hd
theorem RtTo.zero {l : List Cl} : RtTo l 0 := fun i c hi => absurd hi (by omega)
theorem not_rt {l : List Cl} {n : Nat} {c : Cl} (hc : l[n]? = some c) (h : ¬ OkC l n c) : ¬ Rt l := fun hr => h (hr n c hc)
/-- The moments of calls that begin rise. -/
theorem RtTo.rise {l : List Cl} {n : Nat} (h : RtTo l n) : ∀ (i k : Nat) (c d : Cl), i < n → k < i → l[i]? = some c → l[k]? = some d → d.fr < c.fr
  | 0, k, c, d, _, hk, _, _ => by omega
  | i + 1, k, c, d, hi, hk, hc, hd => by
    have hl := (List.getElem?_eq_some_iff.1 hc).1
    obtain ⟨e, he⟩ : ∃ e, l[i]? = some e := ⟨l[i]'(by omega), List.getElem?_eq_getElem (by omega)⟩
    have h1 := (h (i + 1) c hi hc).inc e (by omega) (by simpa using he)
    by_cases hki : k = i
    · subst hki; rw [he] at hd; cases hd; exact h1
    · have := h.rise i k e d (by omega) (by omega) he hd; omega
/-- The last one of a thread. -/
def lst : List Cl → Int → Option Cl
  | [], _ => none
  | c :: l, t => match lst l t with | some d => some d | none => if c.th = t then some c else none
theorem lst_append (l : List Cl) (c : Cl) (t : Int) : lst (l ++ [c]) t = if c.th = t then some c else lst l t := by
  induction l with
  | nil => simp [lst]
  | cons x l ih =>
    simp only [List.cons_append, lst, ih]
    by_cases h : c.th = t
    · simp [h]
    · simp [h]
structure Lw (l : List Cl) (t : Int) (w : Cl) : Prop where
  th : w.th = t
  pl : (cnt l t : Int) = w.pl + 1
  to : ∀ (k : Nat) (d : Cl), l[k]? = some d → d.th = t → d.to ≤ w.to
  mem : ∃ k : Nat, l[k]? = some w
theorem lst_spec {l : List Cl} : ∀ (n : Nat), n ≤ l.length → RtTo l n → ∀ t, (lst (l.take n) t = none → cnt (l.take n) t = 0 ∧ ∀ (k : Nat) (d : Cl), (l.take n)[k]? = some d → d.th ≠ t) ∧ ∀ w, lst (l.take n) t = some w → Lw (l.take n) t w
  | 0, _, _, t => ⟨fun _ => ⟨rfl, fun k d h => by simp at h⟩, fun w h => by simp [lst] at h⟩
  | n + 1, hn, hr, t => by
    obtain ⟨c, hc⟩ : ∃ c, l[n]? = some c := ⟨l[n]'(by omega), List.getElem?_eq_getElem (by omega)⟩
    have hr' : RtTo l n := fun i d hi hd => hr i d (by omega) hd
    obtain ⟨ih1, ih2⟩ := lst_spec n (by omega) hr' t
    have hok := hr n c (by omega) hc
    have hlen : (l.take n).length = n := by simp; omega
    have hget : ∀ (k : Nat) (d : Cl), (l.take n ++ [c])[k]? = some d → (k < n ∧ (l.take n)[k]? = some d ∧ l[k]? = some d) ∨ (k = n ∧ d = c) := fun k d h => by
      rcases Nat.lt_or_ge k n with h1 | h1
      · rw [List.getElem?_append_left (by omega)] at h
        exact .inl ⟨h1, h, by rw [List.getElem?_take_of_lt h1] at h; exact h⟩
      · rw [List.getElem?_append_right (by omega), hlen] at h
        have : k - n = 0 := by
          rcases Nat.eq_zero_or_pos (k - n) with h2 | h2
          · exact h2
          · rw [List.getElem?_eq_none (by simp; omega)] at h; cases h
        rw [this] at h
        simp at h
        exact .inr ⟨by omega, h.symm⟩
    have hcn := cnt_append (l.take n) c t
    rw [take_snoc' hc, lst_append]
    by_cases e : c.th = t
    · rw [if_pos e] at hcn ⊢
      refine ⟨fun h => (by cases h), fun w h => ?_⟩
      cases h
      refine ⟨e, ?_, fun k d hd ht => ?_, n, ?_⟩
      · have := hok.pl; rw [e] at this; omega
      · rcases hget k d hd with ⟨h1, h2, h3⟩ | ⟨rfl, rfl⟩
        · have := hok.th k d h1 h3 (by omega)
          have := hok.f2; omega
        · omega
      · rw [List.getElem?_append_right (by omega), hlen]; simp
    · rw [if_neg e] at hcn ⊢
      refine ⟨fun h => ⟨hcn.trans (ih1 h).1, fun k d hd => ?_⟩, fun w h => ?_⟩
      · rcases hget k d hd with ⟨h1, h2, h3⟩ | ⟨rfl, rfl⟩
        · exact (ih1 h).2 k d h2
        · exact e
      · obtain ⟨a1, a2, a3, k', a4⟩ := ih2 w h
        refine ⟨a1, by rw [hcn]; exact a2, fun k d hd ht => ?_, k', ?_⟩
        · rcases hget k d hd with ⟨h1, h2, h3⟩ | ⟨rfl, rfl⟩
          · exact a3 k d h2 ht
          · exact absurd ht e
        · rw [List.getElem?_append_left (List.getElem?_eq_some_iff.1 a4).1]; exact a4
/-- The moments that were seen. -/
def Sn (l : List Cl) (i : Nat) (x : Int) : Prop := ∃ (k : Nat) (d : Cl), k < i ∧ l[k]? = some d ∧ (d.fr = x ∨ d.to = x)
theorem Sn.succ {l : List Cl} {i : Nat} {c : Cl} (h : l[i]? = some c) (x : Int) : Sn l (i + 1) x ↔ (x = c.to ∨ x = c.fr ∨ Sn l i x) := by
  constructor
  · rintro ⟨k, d, hk, hd, hx⟩
    by_cases e : k = i
    · subst e; rw [h] at hd; cases hd
      rcases hx with hx | hx
      · exact .inr (.inl hx.symm)
      · exact .inl hx.symm
    · exact .inr (.inr ⟨k, d, by omega, hd, hx⟩)
  · rintro (rfl | rfl | ⟨k, d, hk, hd, hx⟩)
    · exact ⟨i, c, by omega, h, .inr rfl⟩
    · exact ⟨i, c, by omega, h, .inl rfl⟩
    · exact ⟨k, d, by omega, hd, hx⟩
/-- What the program looks at. -/
theorem okC_iff {l : List Cl} {i : Nat} {c : Cl} (hr : RtTo l i) (hc : l[i]? = some c) :
    OkC l i c ↔ (1 ≤ c.fr ∧ c.fr < c.to ∧ ¬ Sn l i c.fr ∧ ¬ Sn l i c.to ∧ (∀ d, 0 < i → l[i - 1]? = some d → d.fr < c.fr) ∧ (∀ w, lst (l.take i) c.th = some w → w.pl + 1 = c.pl ∧ w.to < c.fr) ∧ (lst (l.take i) c.th = none → c.pl = 0)) := by
  have hil := (List.getElem?_eq_some_iff.1 hc).1
  obtain ⟨s1, s2⟩ := lst_spec i (by omega) hr c.th
  have htk : ∀ (k : Nat) (d : Cl), k < i → l[k]? = some d → (l.take i)[k]? = some d := fun k d hk hd => by rw [List.getElem?_take_of_lt hk]; exact hd
  have htk' : ∀ (k : Nat) (d : Cl), (l.take i)[k]? = some d → k < i ∧ l[k]? = some d := fun k d hd => by
    have h1 := (List.getElem?_eq_some_iff.1 hd).1
    simp at h1
    exact ⟨by omega, by rw [List.getElem?_take_of_lt (by omega)] at hd; exact hd⟩
  constructor
  · intro h
    have hrs := (hr.succ hc h).rise i
    refine ⟨h.f1, h.f2, ?_, ?_, h.inc, fun w hw => ?_, fun hn => ?_⟩
    · rintro ⟨k, d, hk, hd, hx⟩
      have h1 := hrs k c d (by omega) hk hc hd
      have h2 := h.ne k d hk hd
      rcases hx with hx | hx
      · omega
      · exact h2.2.1 hx
    · rintro ⟨k, d, hk, hd, hx⟩
      have h2 := h.ne k d hk hd
      rcases hx with hx | hx
      · exact h2.2.2 hx
      · exact h2.1 hx
    · obtain ⟨a1, a2, a3, k, a4⟩ := s2 w hw
      obtain ⟨hk, hd⟩ := htk' k w a4
      exact ⟨by rw [h.pl]; omega, h.th k w hk hd a1⟩
    · rw [h.pl, (s1 hn).1]; rfl
  · rintro ⟨h1, h2, h3, h4, h5, h6, h7⟩
    have hsn : ∀ (k : Nat) (d : Cl), k < i → l[k]? = some d → d.to ≠ c.to ∧ d.to ≠ c.fr ∧ d.fr ≠ c.to := fun k d hk hd =>
      ⟨fun e => h4 ⟨k, d, hk, hd, .inr e⟩, fun e => h3 ⟨k, d, hk, hd, .inr e⟩, fun e => h4 ⟨k, d, hk, hd, .inl e⟩⟩
    cases hl : lst (l.take i) c.th with
    | none =>
      obtain ⟨b1, b2⟩ := s1 hl
      exact ⟨h1, h2, h5, hsn, fun k d hk hd ht => absurd ht (b2 k d (htk k d hk hd)), by rw [h7 hl, b1]; rfl⟩
    | some w =>
      obtain ⟨a1, a2, a3, k', a4⟩ := s2 w hl
      obtain ⟨b1, b2⟩ := h6 w hl
      exact ⟨h1, h2, h5, hsn, fun k d hk hd ht => by have := a3 k d (htk k d hk hd) ht; omega, by omega⟩
end Go.Proofs.YtdbgeahmhfocaaaGreat
