/- Each quiet operation as a plain function of its operands and the view of memory, and that the machine's operation yields it and leaves the world as it is. -/
import Derived.Test.YtdbgeahmhfocaaaGreatEngB
namespace Go.Proofs.YtdbgeahmhfocaaaGreat
set_option linter.unusedSimpArgs false
set_option linter.unusedVariables false
open Go Go.RowKit

def nck : Value → Option Value
  | .pointer (some a) => some (.pointer (some a))
  | .func (.func f) x y => some (.func (.func f) x y)
  | .func (.yield f) x y => some (.func (.yield f) x y)
  | _ => none

def un (op : UnOp) (x : Value) : Option Value :=
  match op, x with
  | .not, .bool b => some (.bool !b)
  | .neg, .int k n => some (.int k (k.wrap (0 - n)))
  | _, _ => none

def cv (P : Program) (s d : TypeId) (x : Value) : Option Value :=
  match kd P d, kd P s, x with
  | .int k, .int _, .int _ n => some (.int k (k.wrap n))
  | .string, .string, .string s => some (.string s)
  | _, _, _ => none

def fld (P : Program) (t f : Nat) (x : Value) : Option Value :=
  match x, fk P t f with
  | .agg cs, some (off, some n) => some (.agg (cs.extract off (off + n)))
  | .agg cs, some (off, none) => cs[off]?
  | _, _ => none

def ixa (P : Program) (t : TypeId) (x i : Value) : Option Value :=
  match ik P t, x, i with
  | some (none, s, _), .slice (some a) len _, .int _ i => if 0 ≤ i ∧ i < len then some (.pointer (some (a.add (i.toNat * s)))) else none
  | some (some len, s, _), .pointer (some a), .int _ i => if 0 ≤ i ∧ i < len then some (.pointer (some (a.add (i.toNat * s)))) else none
  | _, _, _ => none

def ixv (P : Program) (t : TypeId) (x i : Value) : Option Value :=
  match x, i with
  | .string s, .int _ i => if kd P t = .string ∧ 0 ≤ i then (s[i.toNat]?).map fun b => .int .u8 b.toNat else none
  | .agg cs, .int _ i =>
    match ik P t with
    | some (some len, s, true) => if 0 ≤ i ∧ i < len then some (.agg (cs.extract (i.toNat * s) (i.toNat * s + s))) else none
    | some (some len, s, false) => if 0 ≤ i ∧ i < len then cs[i.toNat * s]? else none
    | _ => none
  | _, _ => none

def sbd (x : Option Value) (dflt y : Nat) : Option Nat :=
  match x with
  | none => some dflt
  | some (.int _ i) => if 0 ≤ i ∧ i ≤ y then some i.toNat else none
  | _ => none

def sbs (len cap : Nat) (lo hi mx : Option Value) : Option (Nat × Nat × Nat) :=
  (sbd mx cap cap).bind fun m => if hi = none ∧ mx ≠ none then none else (sbd hi len m).bind fun h => (sbd lo 0 h).map fun l => (l, h, m)

instance (x : Option Value) : Decidable (x = none) := decidable_of_iff (x.isNone = true) (by cases x <;> simp)

def slc (P : Program) (t : TypeId) (x : Value) (lo hi mx : Option Value) : Option Value :=
  match x with
  | .string s => if kd P t = .string ∧ mx = none then (sbs s.size s.size lo hi none).map fun (l, h, _) => .string (s.extract l h) else none
  | .slice a len cap =>
    match ik P t with
    | some (none, s, _) => (sbs len cap lo hi mx).map fun (l, h, m) => .slice (if m = l then a else a.map (·.add (l * s))) (h - l) (m - l)
    | _ => none
  | .pointer (some a) =>
    match ik P t with
    | some (some n, s, _) => (sbs n n lo hi mx).map fun (l, h, m) => .slice (some (if m = l then a else a.add (l * s))) (h - l) (m - l)
    | _ => none
  | _ => none

def mx2 : Value → Value → Option Value
  | .int k x, .int _ y => some (.int k (if y > x then y else x))
  | _, _ => none
def mn2 : Value → Value → Option Value
  | .int k x, .int _ y => some (.int k (if y < x then y else x))
  | _, _ => none
def fold2 (f : Value → Value → Option Value) : Value → List Value → Option Value
  | x, [] => some x
  | x, y :: l => (f x y).bind fun z => fold2 f z l

def bi (P : Program) (σ : St) (b : Builtin) (ts : Array TypeId) (xs : List Value) : Option Value :=
  match b, xs with
  | .len, [x] =>
    match ts[0]? with
    | none => none
    | some t =>
      match x with
      | .string s => if kd P t = .string then some (goInt s.size) else none
      | .slice _ n _ => if kd P t = .slice then some (goInt n) else none
      | .map none => if kd P t = .map then some (goInt 0) else none
      | .map (some r) => if kd P t = .map then (match σ.m r with | some (.raw (.map es _)) => some (goInt es.size) | _ => none) else none
      | _ => match ik P t with | some (some n, _, _) => some (goInt n) | _ => none
  | .cap, [x] =>
    match ts[0]? with
    | none => none
    | some t =>
      match x with
      | .slice _ _ n => if kd P t = .slice then some (goInt n) else none
      | _ => none
  | .max, x :: l => fold2 mx2 x l
  | .min, x :: l => fold2 mn2 x l
  | _, _ => none

def plainKey : TypeDesc → Bool
  | .int _ | .string | .bool => true
  | _ => false

def lk (P : Program) (σ : St) (t : TypeId) (x i : Value) (ok : Bool) : Option Value :=
  match P.underlying t with
  | some (.map key elem) =>
    match P.underlying key, zr P elem with
    | some d, some z =>
      if plainKey d then
        match x with
        | .map none => some (if ok then .tuple #[z, .bool false] else z)
        | .map (some r) =>
          match σ.m r with
          | some (.raw (.map es _)) =>
            match Instr.findNow d i es.toList 0 with
            | some (some (_, v)) => some (if ok then .tuple #[v, .bool true] else v)
            | some none => some (if ok then .tuple #[z, .bool false] else z)
            | none => none
          | _ => none
        | _ => none
      else none
    | _, _ => none
  | _ => none

/-- The zero cells of a struct or an array, and where its fields, or elements, lie. -/
def bp (P : Program) (t : TypeId) : Option (Array Value × (List (Nat × Nat) ⊕ Nat)) :=
  match zr P t, P.underlying t with
  | some z, some (.struct fs) => (fs.toList.mapM fun f => (P.info? f.type).map fun i => (f.offset, i.size)).map fun l => (z.cells, .inl l)
  | some z, some (.array _ e) => (P.info? e).map fun i => (z.cells, .inr i.size)
  | _, _ => none

def bld (P : Program) (t : TypeId) (parts : List (Nat × Value)) : Option Value :=
  match bp P t with
  | some (z, .inl pl) => (Instr.fill (pl[·]?) z parts).map .agg
  | some (z, .inr s) => (Instr.fill (fun i => some (i * s, s)) z parts).map .agg
  | none => none

def plainKd : Kd → Bool
  | .iface | .other => false
  | _ => true

def qv (P : Program) (B : World) (p : Op) (ρ : Operand → Value) (σ : St) : Option Value :=
  match p with
  | .move x => some (ρ x)
  | .assign x => some (ρ x)
  | .pick c a b => match ρ c with | .bool t => some (if t then ρ a else ρ b) | _ => none
  | .nilCheck x => nck (ρ x)
  | .binOp op t x y _ => bin P op t (ρ x) (ρ y)
  | .unOp op _ x => un op (ρ x)
  | .convert s d x => cv P s d (ρ x)
  | .fieldAddr s x f => match ρ x, fo P s f with | .pointer (some a), some o => some (.pointer (some (a.add o))) | _, _ => none
  | .field t x f => fld P t f (ρ x)
  | .indexAddr t x i => ixa P t (ρ x) (ρ i)
  | .index t x i => ixv P t (ρ x) (ρ i)
  | .extract x i => match ρ x with | .tuple vs => vs[i]? | _ => none
  | .slice t x lo hi mx => slc P t (ρ x) (lo.map ρ) (hi.map ρ) (mx.map ρ)
  | .load t x => match ρ x with | .pointer (some a) => ldv P B σ t a | _ => none
  | .makeFunc fn first cap => some (.func fn (first.map ρ) (cap.map ρ))
  | .build t parts => bld P t (parts.toList.map fun (i, x) => (i, ρ x))
  | .makeInterface t x => if plainKd (kd P t) then some (.iface t (ρ x)) else none
  | .lookup t x i ok => lk P σ t (ρ x) (ρ i) ok
  | .call c => match c.callee with | .builtin b => bi P σ b c.argTypes (c.args.toList.map ρ) | _ => none
  | _ => none

section
variable {P : Program} {B w : World} {σ : St} {ρ : Operand → Value}

theorem run_cv {s d : TypeId} {x v : Value} (h : cv P s d x = some v) : (convert s d x).run P w = .ok v w := by
  unfold cv at h
  split at h <;> first | contradiction | skip
  · rename_i k j i n hd hs
    obtain ⟨d1, hu, h1⟩ := kd_und hd (by simp)
    obtain ⟨d2, hu2, h2⟩ := kd_und hs (by simp)
    cases d1 <;> first | exact h1.elim | skip
    cases d2 <;> first | exact h2.elim | skip
    cases h
    simp only [kdIs] at h1
    subst h1
    simp [convert, run_und hu, run_und hu2, Conv.intToInt]
  · rename_i hd hs
    obtain ⟨d1, hu, h1⟩ := kd_und hd (by simp)
    obtain ⟨d2, hu2, h2⟩ := kd_und hs (by simp)
    cases d1 <;> first | exact h1.elim | skip
    cases d2 <;> first | exact h2.elim | skip
    cases h
    simp [convert, run_und hu, run_und hu2]

theorem run_fo {s f o : Nat} {a : Addr} (h : fo P s f = some o) : (Instr.fieldAt s (.pointer (some a)) f).run P w = .ok (.pointer (some (a.add o))) w := by
  unfold fo at h
  split at h <;> first | contradiction | skip
  rename_i fs hu
  split at h <;> first | contradiction | skip
  rename_i fd hf
  cases hi : P.info? fd.type with
  | none => simp [hi] at h
  | some i =>
    simp only [hi, Option.bind_some] at h
    split at h <;> first | contradiction | skip
    rename_i h0
    cases h
    simp [Instr.fieldAt, run_und hu, hf, Instr.sureAddr, fieldPlace, run_sz hi, h0]

theorem run_part {t : TypeId} {b : Bool} {n : Nat} (h : tk P t = some (b, n)) (cs : Array Value) (off : Nat) (v : Value)
    (hv : (if b then some (Value.agg (cs.extract off (off + n))) else cs[off]?) = some v) : (Go.part t cs off).run P w = .ok v w := by
  obtain ⟨d, i, hu, hi, hn, hag⟩ := tk_spec (w := w) h
  cases b with
  | true => simp at hv; simp [Go.part, hag, run_sz hi, hn, hv]
  | false => simp at hv; simp [Go.part, hag, hv]

theorem run_fld {t f : Nat} {x v : Value} (h : fld P t f x = some v) : (Instr.field t x f).run P w = .ok v w := by
  unfold fld at h
  have key : ∀ {off : Nat} {o : Option Nat}, fk P t f = some (off, o) → ∃ fs fd b n, P.underlying t = some (.struct fs) ∧ fs[f]? = some fd ∧ tk P fd.type = some (b, n) ∧ fd.offset = off ∧ o = (if b then some n else none) := by
    intro off o hk
    unfold fk at hk
    split at hk <;> first | contradiction | skip
    rename_i fs hu
    split at hk <;> first | contradiction | skip
    rename_i fd hf
    cases ht : tk P fd.type with
    | none => simp [ht] at hk
    | some bn =>
      obtain ⟨b, n⟩ := bn
      simp [ht] at hk
      exact ⟨fs, fd, b, n, hu, hf, rfl.trans ht, hk.1, hk.2.symm⟩
  split at h <;> first | contradiction | skip
  · rename_i cs off n hk
    obtain ⟨fs, fd, b, n', hu, hf, ht, ho, hb⟩ := key hk
    cases b <;> simp at hb
    subst hb
    simp [Instr.field, run_und hu, hf, asAgg, run_part ht cs fd.offset v (by simpa [ho] using h)]
  · rename_i cs off hk
    obtain ⟨fs, fd, b, n', hu, hf, ht, ho, hb⟩ := key hk
    cases b <;> simp at hb
    simp [Instr.field, run_und hu, hf, asAgg, run_part ht cs fd.offset v (by simpa [ho] using h)]

theorem ik_slice {t : TypeId} {s : Nat} {g : Bool} (h : ik P t = some (none, s, g)) : ∃ e, P.underlying t = some (.slice e) ∧ tk P e = some (g, s) := by
  unfold ik at h
  split at h <;> first | contradiction | skip
  · rename_i n e hu
    cases ht : tk P e <;> simp [ht] at h
  · rename_i e hu
    cases ht : tk P e with
    | none => simp [ht] at h
    | some x => obtain ⟨a, b⟩ := x; simp [ht] at h; exact ⟨e, hu, by rw [ht, h.1, h.2]⟩

theorem ik_array {t : TypeId} {n s : Nat} {g : Bool} (h : ik P t = some (some n, s, g)) : ∃ e, P.underlying t = some (.array n e) ∧ tk P e = some (g, s) := by
  unfold ik at h
  split at h <;> first | contradiction | skip
  · rename_i n' e hu
    cases ht : tk P e with
    | none => simp [ht] at h
    | some x => obtain ⟨a, b⟩ := x; simp [ht] at h; obtain ⟨rfl, rfl, rfl⟩ := h; exact ⟨e, hu, ht⟩
  · rename_i e hu
    cases ht : tk P e <;> simp [ht] at h

theorem run_ixa {t : TypeId} {x i v : Value} (h : ixa P t x i = some v) : (Instr.indexAt t x i).run P w = .ok v w := by
  unfold ixa at h
  split at h <;> first | contradiction | skip
  · rename_i s g a len cap k i hk
    obtain ⟨e, hu, ht⟩ := ik_slice hk
    obtain ⟨d, ii, hu2, hi, hn, hag⟩ := tk_spec (w := w) ht
    split at h <;> first | contradiction | skip
    rename_i hb
    cases h
    simp [Instr.indexAt, asIntOf, run_und hu, run_sz hi, hn, hb]
  · rename_i len s g a k i hk
    obtain ⟨e, hu, ht⟩ := ik_array hk
    obtain ⟨d, ii, hu2, hi, hn, hag⟩ := tk_spec (w := w) ht
    split at h <;> first | contradiction | skip
    rename_i hb
    cases h
    simp [Instr.indexAt, asIntOf, run_und hu, run_sz hi, hn, hb, Instr.sureAddr]

theorem run_ixv {t : TypeId} {x i v : Value} (h : ixv P t x i = some v) : (Instr.index t x i).run P w = .ok v w := by
  unfold ixv at h
  split at h <;> first | contradiction | skip
  · rename_i s k i
    split at h <;> first | contradiction | skip
    rename_i hb
    obtain ⟨d, hu, hd⟩ := kd_und hb.1 (by simp)
    cases d <;> first | exact hd.elim | skip
    simp only [Option.map_eq_some_iff] at h
    obtain ⟨c, hc, rfl⟩ := h
    simp [Instr.index, asIntOf, run_und hu, hb.2, hc]
  · rename_i cs k i
    split at h <;> first | contradiction | skip
    · rename_i len s hk
      obtain ⟨e, hu, ht⟩ := ik_array hk
      obtain ⟨d, ii, hu2, hi, hn, hag⟩ := tk_spec (w := w) ht
      split at h <;> first | contradiction | skip
      rename_i hb
      simp [Instr.index, asIntOf, run_und hu, run_sz hi, hn, hb, run_part ht cs (i.toNat * s) v (by simpa using h)]
    · rename_i len s hk
      obtain ⟨e, hu, ht⟩ := ik_array hk
      obtain ⟨d, ii, hu2, hi, hn, hag⟩ := tk_spec (w := w) ht
      split at h <;> first | contradiction | skip
      rename_i hb
      simp [Instr.index, asIntOf, run_und hu, run_sz hi, hn, hb, run_part ht cs (i.toNat * s) v (by simpa using h)]

theorem run_sbd {v : Value} {dflt y n : Nat} {code : BoundsCode} (h : sbd (some v) dflt y = some n) : (Instr.sliceBound v y code).run P w = .ok n w := by
  unfold sbd at h
  split at h <;> first | contradiction | skip
  rename_i k i he
  cases he
  split at h <;> first | contradiction | skip
  rename_i hb
  cases h
  simp [Instr.sliceBound, asIntOf, hb]

theorem run_sbs {isS : Bool} {len cap l hh m : Nat} {lo hi mx : Option Value} (h : sbs len cap lo hi mx = some (l, hh, m)) :
    (Instr.sliceBounds isS len cap lo hi mx).run P w = .ok (l, hh, m) w := by
  unfold sbs at h
  simp only [Option.bind_eq_some_iff] at h
  obtain ⟨m', hm, h⟩ := h
  split at h <;> first | contradiction | skip
  rename_i hn
  simp only [Option.bind_eq_some_iff, Option.map_eq_some_iff, Prod.mk.injEq] at h
  obtain ⟨h', hh', l', hl, rfl, rfl, rfl⟩ := h
  unfold Instr.sliceBounds
  cases mx with
  | none =>
    obtain rfl : cap = m' := by simpa [sbd] using hm
    cases hi with
    | none =>
      obtain rfl : len = h' := by simpa [sbd] using hh'
      cases lo with
      | none =>
        obtain rfl : 0 = l' := by simpa [sbd] using hl
        simp
      | some a => simp [run_sbd hl]
    | some b =>
      cases lo with
      | none =>
        obtain rfl : 0 = l' := by simpa [sbd] using hl
        simp [run_sbd hh']
      | some a => simp [run_sbd hl, run_sbd hh']
  | some c =>
    cases hi with
    | none => simp at hn
    | some b =>
      cases lo with
      | none =>
        obtain rfl : 0 = l' := by simpa [sbd] using hl
        simp [run_sbd hh', run_sbd hm]
      | some a => simp [run_sbd hl, run_sbd hh', run_sbd hm]

theorem run_slc {t : TypeId} {x v : Value} {lo hi mx : Option Value} (h : slc P t x lo hi mx = some v) : (Instr.sliceAt t x lo hi mx).run P w = .ok v w := by
  unfold slc at h
  split at h <;> first | contradiction | skip
  · rename_i s
    split at h <;> first | contradiction | skip
    rename_i hb
    obtain ⟨d, hu, hd⟩ := kd_und hb.1 (by simp)
    cases d <;> first | exact hd.elim | skip
    simp only [Option.map_eq_some_iff] at h
    obtain ⟨⟨l, hh, m⟩, hs, rfl⟩ := h
    simp [Instr.sliceAt, Instr.slice, run_und hu, hb.2, run_sbs hs]
  · rename_i a len cap
    split at h <;> first | contradiction | skip
    rename_i s g hk
    obtain ⟨e, hu, ht⟩ := ik_slice hk
    obtain ⟨d, ii, hu2, hi, hn, hag⟩ := tk_spec (w := w) ht
    simp only [Option.map_eq_some_iff] at h
    obtain ⟨⟨l, hh, m⟩, hs, rfl⟩ := h
    simp [Instr.sliceAt, Instr.slice, run_und hu, run_sbs hs, run_sz hi, hn]
  · rename_i a
    split at h <;> first | contradiction | skip
    rename_i n s g hk
    obtain ⟨e, hu, ht⟩ := ik_array hk
    obtain ⟨d, ii, hu2, hi, hn, hag⟩ := tk_spec (w := w) ht
    simp only [Option.map_eq_some_iff] at h
    obtain ⟨⟨l, hh, m⟩, hs, rfl⟩ := h
    simp [Instr.sliceAt, run_und hu, run_sbs hs, run_sz hi, hn, Instr.sureAddr]

theorem run_un {op : UnOp} {x v : Value} (h : un op x = some v) : (Op.unary op x).run P w = .ok v w := by
  unfold un at h
  split at h <;> first | contradiction | (cases h; simp [Op.unary, Op.intArith])

theorem run_fold2 {f : Value → Value → Option Value} {g : Value → Value → Sem Value} (hfg : ∀ x y v, f x y = some v → (g x y).run P w = .ok v w) :
    ∀ (l : List Value) (x v : Value), fold2 f x l = some v → (l.foldlM g x).run P w = .ok v w
  | [], x, v, h => by simp [fold2] at h; simp [h]
  | y :: l, x, v, h => by
    simp only [fold2, Option.bind_eq_some_iff] at h
    obtain ⟨z, hz, h⟩ := h
    simp [hfg x y z hz, run_fold2 hfg l z v h]

theorem run_bi (h : Rel B w σ) {b : Builtin} {ts : Array TypeId} {xs : List Value} {v : Value} (ty : TypeId) (cs : Array Bool) (hv : bi P σ b ts xs = some v) :
    (builtin b ts ty cs xs.toArray).run P w = .ok (.value v) w := by
  unfold bi at hv
  split at hv <;> first | contradiction | skip
  · rename_i x
    split at hv <;> first | contradiction | skip
    rename_i t ht
    split at hv
    · split at hv <;> first | contradiction | skip
      rename_i hk
      obtain ⟨d, hu, hd⟩ := kd_und hk (by simp)
      cases d <;> first | exact hd.elim | skip
      cases hv
      simp [builtin, Builtin.len_, ht, run_und hu]
    · split at hv <;> first | contradiction | skip
      rename_i hk
      obtain ⟨d, hu, hd⟩ := kd_und hk (by simp)
      cases d <;> first | exact hd.elim | skip
      cases hv
      simp [builtin, Builtin.len_, ht, run_und hu]
    · split at hv <;> first | contradiction | skip
      rename_i hk
      obtain ⟨d, hu, hd⟩ := kd_und hk (by simp)
      cases d <;> first | exact hd.elim | skip
      cases hv
      simp [builtin, Builtin.len_, ht, run_und hu]
    · split at hv <;> first | contradiction | skip
      rename_i hk
      obtain ⟨d, hu, hd⟩ := kd_und hk (by simp)
      cases d <;> first | exact hd.elim | skip
      split at hv <;> first | contradiction | skip
      rename_i es c hm
      cases hv
      have := h.raw hm
      simp [builtin, Builtin.len_, ht, run_und hu, getObj, Sem.run, this]
    · rename_i h1 h2 h3 h4
      split at hv <;> first | contradiction | skip
      rename_i n s g hk
      obtain ⟨e, hu, _⟩ := ik_array hk
      cases hv
      simp [builtin, Builtin.len_, ht, run_und hu]
  · rename_i x
    split at hv <;> first | contradiction | skip
    rename_i t ht
    split at hv <;> first | contradiction | skip
    split at hv <;> first | contradiction | skip
    rename_i hk
    obtain ⟨d, hu, hd⟩ := kd_und hk (by simp)
    cases d <;> first | exact hd.elim | skip
    cases hv
    simp [builtin, Builtin.cap_, ht, run_und hu]
  · rename_i x l
    have := run_fold2 (P := P) (w := w) (f := mx2) (g := Builtin.max2) (fun x y v hxy => by
      unfold mx2 at hxy; split at hxy <;> first | contradiction | (cases hxy; simp [Builtin.max2])) l x v hv
    simp [builtin, Builtin.max_, this]
  · rename_i x l
    have := run_fold2 (P := P) (w := w) (f := mn2) (g := Builtin.min2) (fun x y v hxy => by
      unfold mn2 at hxy; split at hxy <;> first | contradiction | (cases hxy; simp [Builtin.min2])) l x v hv
    simp [builtin, Builtin.min_, this]

theorem run_checkKey {t : TypeId} {d : TypeDesc} (hu : P.underlying t = some d) (hd : plainKey d = true) (e : Bool) (n : Nat) (v : Value) :
    (Instr.checkKey e (n + 1) t v).run P w = .ok () w := by
  cases d <;> simp [plainKey] at hd <;> simp [Instr.checkKey, run_und hu]

theorem run_findKey {t : TypeId} {d : TypeDesc} (hu : P.underlying t = some d) {k : Value} {es : List MapEntry} {r : Option (Nat × Value)} (h : Instr.findNow d k es 0 = some r) :
    (Instr.findKey t k es).run P w = .ok r w := by
  simp [Instr.findKey, run_und hu, h]

theorem run_lk (h : Rel B w σ) {t : TypeId} {x i v : Value} {ok : Bool} (hv : lk P σ t x i ok = some v) : (Instr.lookup t x i ok).run P w = .ok v w := by
  unfold lk at hv
  split at hv <;> first | contradiction | skip
  rename_i key elem hu
  split at hv <;> first | contradiction | skip
  rename_i d z hd hz
  split at hv <;> first | contradiction | skip
  rename_i hkd
  split at hv <;> first | contradiction | skip
  · cases hv
    simp [Instr.lookup, run_und hu, run_checkKey hd hkd, run_findKey hd (show Instr.findNow d i [] 0 = some none from rfl), run_zr hz]
  · rename_i r
    split at hv <;> first | contradiction | skip
    rename_i es c hm
    have hr := h.raw hm
    split at hv <;> first | contradiction | skip
    · rename_i n v' hf
      cases hv
      simp [Instr.lookup, run_und hu, run_checkKey hd hkd, getObj, Sem.run, hr, run_findKey hd hf]
    · rename_i hf
      cases hv
      simp [Instr.lookup, run_und hu, run_checkKey hd hkd, getObj, Sem.run, hr, run_findKey hd hf, run_zr hz]

theorem run_places (w : World) : ∀ (fs : List Field) (l : List (Nat × Nat)), (fs.mapM fun f => (P.info? f.type).map fun i => (f.offset, i.size)) = some l →
    (fs.mapM (fun f => do pure (f.offset, ← sizeOf f.type) : Field → Sem (Nat × Nat))).run P w = .ok l w
  | [], l, h => by simp at h; simp [h]
  | f :: fs, l, h => by
    simp only [List.mapM_cons, Option.bind_eq_bind, Option.bind_eq_some_iff, Option.map_eq_some_iff, Option.pure_def, Option.some.injEq] at h
    obtain ⟨_, ⟨i, hi, rfl⟩, l', hl, rfl⟩ := h
    simp only [List.mapM_cons, Sem.run_bind, run_sz hi, Result.andThen_ok, Sem.run_pure, run_places w fs l' hl]

theorem run_bld {t : TypeId} {parts : Array (Nat × Value)} {v : Value} (h : bld P t parts.toList = some v) : (Instr.build t parts).run P w = .ok v w := by
  unfold bld at h
  split at h <;> first | contradiction | skip
  · rename_i z pl hb
    unfold bp at hb
    split at hb <;> first | contradiction | skip
    · rename_i z' fs hz hu
      simp only [Option.map_eq_some_iff, Prod.mk.injEq, Sum.inl.injEq] at hb
      obtain ⟨l, hl, rfl, rfl⟩ := hb
      simp only [Option.map_eq_some_iff] at h
      obtain ⟨cs, hf, rfl⟩ := h
      have hp := run_places (P := P) w fs.toList l hl
      have hfill : Instr.fill (fun x => l.toArray[x]?) z'.cells parts.toList = some cs := by simpa using hf
      simp only [Instr.build, Sem.run_bind, run_zr hz, Result.andThen_ok, run_und hu]
      rw [Array.mapM_eq_mapM_toList]
      simp only [Sem.run_map, hp, Result.andThen_ok, hfill, Sem.run_pure]
    · rename_i z' n e hz hu
      cases hi : P.info? e <;> simp [hi] at hb
  · rename_i z s hb
    unfold bp at hb
    split at hb <;> first | contradiction | skip
    · rename_i z' fs hz hu
      simp at hb
    · rename_i z' n e hz hu
      cases hi : P.info? e with
      | none => simp [hi] at hb
      | some i =>
        simp [hi] at hb
        obtain ⟨rfl, rfl⟩ := hb
        simp only [Option.map_eq_some_iff] at h
        obtain ⟨cs, hf, rfl⟩ := h
        simp [Instr.build, run_zr hz, run_und hu, run_sz hi, hf]
  
/-- **THE QUIET OPERATIONS.** -/
theorem run_qv (h : Rel B w σ) {p : Op} {v : Value} (hv : qv P B p ρ σ = some v) (o : Oper) (ho : o.op = p) : (execOp ρ o).run P w = .ok (.value v) w := by
  subst ho
  unfold qv at hv
  unfold execOp
  split at hv <;> first | contradiction | (rename_i heq; rw [heq])
  · cases hv; rfl
  · cases hv; rfl
  · split at hv <;> first | contradiction | skip
    rename_i t ht
    cases hv
    simp [ht, asBool]
  · rename_i x
    simp only [nck] at hv
    split at hv <;> first | contradiction | (rename_i hx; cases hv; simp only [hx]; rfl)
  · simp [run_guard hv, run_bin hv]
  · simp [run_un hv]
  · simp [run_cv hv]
  · split at hv <;> first | contradiction | skip
    rename_i a o hx ho
    cases hv
    simp [hx, run_fo ho]
  · simp [run_fld hv]
  · simp [run_ixa hv]
  · simp [run_ixv hv]
  · split at hv <;> first | contradiction | skip
    rename_i vs hx
    simp [Instr.extract, hx, hv]
  · simp [run_slc hv]
  · split at hv <;> first | contradiction | skip
    rename_i a hx
    simp [Instr.loadAt, hx, Instr.sureAddr, run_ldv h hv]
  · cases hv; simp [Instr.makeFunc]
  · rename_i t parts
    have e : (parts.map fun (i, x) => (i, ρ x)).toList = parts.toList.map fun (i, x) => (i, ρ x) := by simp
    rw [← e] at hv
    simp [run_bld hv]
  · rename_i t x
    split at hv <;> first | contradiction | skip
    rename_i hk
    cases hv
    obtain ⟨d, hu, hd⟩ := kd_und (P := P) (t := t) rfl (fun e => by rw [e] at hk; simp [plainKd] at hk)
    cases hkk : kd P t <;> rw [hkk] at hd hk <;> simp [plainKd] at hk <;> cases d <;> first | exact hd.elim | simp [Instr.makeInterface, run_und hu]
  · simp [run_lk h hv]
  · rename_i c
    split at hv <;> first | contradiction | skip
    rename_i b hc
    have e : (c.args.toList.map ρ).toArray = c.args.map ρ := by rw [← List.map_toArray]
    have hr := fun cs => run_bi h o.type cs hv
    rw [e] at hr
    simp [resolve, hc, invoke, hr]
end
end Go.Proofs.YtdbgeahmhfocaaaGreat
