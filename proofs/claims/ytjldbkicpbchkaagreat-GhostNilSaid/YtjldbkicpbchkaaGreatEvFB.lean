/-
  The fast form is right: its pieces.
-/
import Derived.Test.YtjldbkicpbchkaaGreatEvFA
import Derived.Test.YtjldbkicpbchkaaGreatEvAA
namespace Go.Proofs.YtjldbkicpbchkaaGreat.Ev
open Go

section
variable {r : AV × AHeap}

theorem intE_ok {x : AV} {k : IntKind → Int → R} (h : intE x k = some r) : ∃ i n, x = .int i n ∧ k i n = some r := by
  cases x <;> first | exact ⟨_, _, rfl, h⟩ | cases (show (none : R) = some r from h)
theorem boolE_ok {x : AV} {k : Bool → R} (h : boolE x k = some r) : ∃ b, x = .bool b ∧ k b = some r := by
  cases x <;> first | exact ⟨_, rfl, h⟩ | cases (show (none : R) = some r from h)
theorem ptrE_ok {x : AV} {k : Nat → Nat → R} (h : ptrE x k = some r) : ∃ b o, x = .ptr b o ∧ k b o = some r := by
  cases x <;> first | exact ⟨_, _, rfl, h⟩ | cases (show (none : R) = some r from h)
theorem slE_ok {x : AV} {k : Nat → Nat → Nat → Nat → Nat → Bool → R} (h : slE x k = some r) : ∃ b o l c es ex, x = .sl b o l c es ex ∧ k b o l c es ex = some r := by
  cases x <;> first | exact ⟨_, _, _, _, _, _, rfl, h⟩ | cases (show (none : R) = some r from h)
theorem tupE_ok {x : AV} {k : List AV → R} (h : tupE x k = some r) : ∃ vs, x = .tup vs ∧ k vs = some r := by
  cases x <;> first | exact ⟨_, rfl, h⟩ | cases (show (none : R) = some r from h)
theorem boolB_ok {b : Bool} {t f : Unit → R} (h : boolB b t f = some r) : (b = true ∧ t () = some r) ∨ (b = false ∧ f () = some r) := by
  cases b with
  | true => exact .inl ⟨rfl, h⟩
  | false => exact .inr ⟨rfl, h⟩
theorem natK_eq (n : Nat) (k : Nat → R) : natK n k = k n := by cases n <;> rfl
theorem boolK_eq (b : Bool) (k : AV → R) : boolK b k = k (.bool b) := by cases b <;> rfl
theorem intC_eq (n : Int) (p q : Nat → R) : intC n p q = match n with | .ofNat m => p m | .negSucc m => q m := by cases n <;> rfl
theorem retI_eq (i : IntKind) (n : Int) (k : AV → R) : retI i n k = k (.int i n) := by
  unfold retI
  rw [intC_eq]
  cases n <;> simp only [natK_eq]
theorem wrap_in (i : IntKind) (n : Int) (h1 : n < kindTop i) (h2 : -(kindLow i : Int) ≤ n) : i.wrap n = n := by
  cases i <;> simp [kindTop, kindLow] at h1 h2 <;> simp [IntKind.wrap, IntKind.bits, IntKind.signed] <;> (try split) <;> omega
theorem wrapK_eq (i : IntKind) (n : Int) (k : AV → R) : wrapK i n k = k (.int i (i.wrap n)) := by
  unfold wrapK
  rw [intC_eq]
  cases n with
  | ofNat m =>
    simp only [natK_eq, retI_eq]
    cases hb : Nat.blt m (kindTop i) with
    | false => rfl
    | true =>
      show k (.int i (.ofNat m)) = _
      rw [wrap_in i (.ofNat m)]
      · have : m < kindTop i := by simpa [Nat.blt_eq] using hb
        exact Int.ofNat_lt.2 this
      · have h0 : (0 : Int) ≤ Int.ofNat m := Int.natCast_nonneg m
        omega
  | negSucc m =>
    simp only [natK_eq, retI_eq]
    cases hb : Nat.blt m (kindLow i) with
    | false => rfl
    | true =>
      show k (.int i (.negSucc m)) = _
      rw [wrap_in i (.negSucc m)]
      · have h0 := Int.negSucc_lt_zero m
        omega
      · have : m < kindLow i := by simpa [Nat.blt_eq] using hb
        have e := Int.negSucc_eq m
        omega
theorem intLt_eq (a b : Int) (k : Bool → R) : intLt a b k = k (decide (a < b)) := by
  have key : (match a, b with | .ofNat m, .ofNat n => Nat.blt m n | .ofNat _, .negSucc _ => false | .negSucc _, .ofNat _ => true | .negSucc m, .negSucc n => Nat.blt n m) = decide (a < b) := by
    rw [Bool.eq_iff_iff]
    cases a <;> cases b <;> simp [Nat.blt_eq, Int.negSucc_eq] <;> omega
  rw [← key]
  cases a <;> cases b <;> rfl
theorem intEq_eq (a b : Int) (k : Bool → R) : intEq a b k = k (a == b) := by
  have key : (match a, b with | .ofNat m, .ofNat n => Nat.beq m n | .ofNat _, .negSucc _ => false | .negSucc _, .ofNat _ => false | .negSucc m, .negSucc n => Nat.beq n m) = (a == b) := by
    rw [Bool.eq_iff_iff]
    cases a <;> cases b <;> simp [Nat.beq_eq, Int.negSucc_eq] <;> omega
  rw [← key]
  cases a <;> cases b <;> rfl

theorem getK_ok : ∀ {E : List AV} {i : Nat} {k : AV → R}, getK E i k = some r → ∃ v, E[i]? = some v ∧ k v = some r
  | [], i, k, h => by cases (show (none : R) = some r from h)
  | x :: xs, 0, k, h => ⟨x, rfl, h⟩
  | x :: xs, i + 1, k, h => by
    obtain ⟨v, h1, h2⟩ := getK_ok (E := xs) (i := i) (k := k) h
    exact ⟨v, by simpa using h1, h2⟩
theorem argK_eq : ∀ (E : List AV) (i : Nat) (k : AV → R), argK E i k = k (E.getD i .undef)
  | [], i, k => by show k .undef = _; simp
  | x :: xs, 0, k => rfl
  | x :: xs, i + 1, k => by show argK xs i k = _; rw [argK_eq xs i k]; simp
theorem setK_eq : ∀ (E : List AV) (i : Nat) (v : AV) (k : List AV → R), setK E i v k = k (E.set i v)
  | [], i, v, k => by show k [] = _; simp
  | x :: xs, 0, v, k => rfl
  | x :: xs, i + 1, v, k => by show setK xs i v (fun l => k (x :: l)) = _; rw [setK_eq xs i v]; simp
theorem dropK_eq : ∀ (E : List AV) (i : Nat) (k : List AV → R), dropK E i k = k (E.drop i)
  | [], i, k => by show k [] = _; simp
  | x :: xs, 0, k => rfl
  | x :: xs, i + 1, k => by show dropK xs i k = _; rw [dropK_eq xs i k]; simp
theorem takeK_eq : ∀ (E : List AV) (i : Nat) (k : List AV → R), takeK E i k = k (E.take i)
  | [], i, k => by show k [] = _; simp
  | x :: xs, 0, k => by show k [] = _; simp
  | x :: xs, i + 1, k => by show takeK xs i (fun l => k (x :: l)) = _; rw [takeK_eq xs i]; simp
theorem putK_ok : ∀ {E : List AV} {i : Nat} {v : AV} {k : List AV → R}, putK E i v k = some r → i < E.length ∧ k (E.set i v) = some r
  | [], i, v, k, h => by cases (show (none : R) = some r from h)
  | x :: xs, 0, v, k, h => ⟨by simp, h⟩
  | x :: xs, i + 1, v, k, h => by
    obtain ⟨h1, h2⟩ := putK_ok (E := xs) (i := i) (v := v) (k := fun l => k (x :: l)) h
    exact ⟨by simpa using h1, by simpa using h2⟩

theorem optE_ok {o : Option AObj} {k : AObj → R} (h : optE o k = some r) : ∃ x, o = some x ∧ k x = some r := by
  cases o with
  | none => cases (show (none : R) = some r from h)
  | some x => exact ⟨x, rfl, h⟩
theorem half (j : Nat) (t f : Unit → R) : boolB (Nat.beq (Nat.mod j 2) 0) t f = cond (Nat.beq (j % 2) 0) (t ()) (f ()) := by
  show boolB (Nat.beq (j % 2) 0) t f = _
  cases Nat.beq (j % 2) 0 <;> rfl
theorem hgetT_ok : ∀ {t : HT} {i : Nat} {k : AObj → R}, hgetT t i k = some r → ∃ o, t.get i = some o ∧ k o = some r
  | .lf, i, k, h => by cases (show (none : R) = some r from h)
  | .nd v l rr, 0, k, h => by
    obtain ⟨x, h1, h2⟩ := optE_ok (o := v) (k := k) h
    exact ⟨x, by simpa [HT.get] using h1, h2⟩
  | .nd v l rr, i + 1, k, h => by
    have h' : boolB (Nat.beq (Nat.mod i 2) 0) (fun _ => hgetT l (Nat.div i 2) k) (fun _ => hgetT rr (Nat.div i 2) k) = some r := h
    rw [half] at h'
    simp only [HT.get]
    cases hb : Nat.beq (i % 2) 0 with
    | true => rw [hb] at h'; exact hgetT_ok (t := l) h'
    | false => rw [hb] at h'; exact hgetT_ok (t := rr) h'
theorem put_fuel : ∀ (f g : Nat) (t : HT) (i : Nat) (o : AObj), i < f → i < g → HT.put f t i o = HT.put g t i o := by
  intro f
  induction f with
  | zero => intro g t i o h; omega
  | succ f ih =>
    intro g t i o hf hg
    cases g with
    | zero => omega
    | succ g =>
      cases t with
      | lf =>
        cases i with
        | zero => rfl
        | succ i => simp only [HT.put]; rw [ih g .lf (i / 2) o (by omega) (by omega)]
      | nd w l rr =>
        cases i with
        | zero => rfl
        | succ i => simp only [HT.put]; rw [ih g l (i / 2) o (by omega) (by omega), ih g rr (i / 2) o (by omega) (by omega)]
theorem hputT_eq : ∀ (t : HT) (i : Nat) (o : AObj) (k : HT → R), hputT t i o k = k (HT.put (i + 1) t i o)
  | .lf, 0, o, k => rfl
  | .lf, i + 1, o, k => rfl
  | .nd v l rr, 0, o, k => rfl
  | .nd v l rr, i + 1, o, k => by
    show boolB (Nat.beq (Nat.mod i 2) 0) (fun _ => hputT l (Nat.div i 2) o fun l' => k (.nd v l' rr)) (fun _ => hputT rr (Nat.div i 2) o fun r' => k (.nd v l r')) = _
    rw [half]
    simp only [HT.put]
    cases hb : Nat.beq (i % 2) 0 with
    | true =>
      simp only [cond_true]
      rw [hputT_eq l]
      rw [put_fuel _ (i + 1) l (Nat.div i 2) o (by omega) (by show i / 2 < i + 1; omega)]
      rfl
    | false =>
      simp only [cond_false]
      rw [hputT_eq rr]
      rw [put_fuel _ (i + 1) rr (Nat.div i 2) o (by omega) (by show i / 2 < i + 1; omega)]
      rfl
theorem hget_ok {h : AHeap} {b : Nat} {k : AObj → R} (hh : hget h b k = some r) : ∃ o, h.get b = some o ∧ k o = some r := hgetT_ok (t := h.t) hh
theorem hset_eq (h : AHeap) (b : Nat) (o : AObj) (k : AHeap → R) : hset h b o k = k (h.set b o) := hputT_eq h.t b o _
theorem hpush_eq (h : AHeap) (o : AObj) (k : Nat → AHeap → R) : hpush h o k = k h.n (h.push o) := by
  show hputT h.t h.n o (fun t' => natK (Nat.succ h.n) fun m => k h.n ⟨m, t'⟩) = _
  rw [hputT_eq, natK_eq]
  rfl
theorem hforce_eq (h : AHeap) (k : AHeap → R) : hforce h k = k h := by
  show natK h.n (fun n => k ⟨n, h.t⟩) = _
  rw [natK_eq]
theorem cellsE_ok {o : AObj} {k : List AV → TypeId → Bool → Bool → List Nat → R} (h : cellsE o k = some r) : ∃ cs ty ro sh kin, o = .cells cs ty ro sh kin ∧ k cs ty ro sh kin = some r := by
  cases o <;> first | exact ⟨_, _, _, _, _, rfl, h⟩ | cases (show (none : R) = some r from h)
theorem genK_ok {o : Option AV} {k : AV → R} (h : genK o k = some r) : ∃ v, o = some v ∧ k v = some r := by
  cases o with
  | none => cases (show (none : R) = some r from h)
  | some v => exact ⟨v, rfl, h⟩
theorem genHK_ok {o : Option (AV × AHeap)} {k : AV → AHeap → R} (h : genHK o k = some r) : ∃ v h', o = some (v, h') ∧ k v h' = some r := by
  cases o with
  | none => cases (show (none : R) = some r from h)
  | some p => obtain ⟨v, h'⟩ := p; exact ⟨v, h', rfl, h⟩
theorem genN_ok {o : Option (AObj × (Nat → AV))} {hh : AHeap} {k : AV → AHeap → R} (h : genN o hh k = some r) : ∃ ob mk, o = some (ob, mk) ∧ k (mk hh.n) (hh.push ob) = some r := by
  cases o with
  | none => cases (show (none : R) = some r from h)
  | some p =>
    obtain ⟨ob, mk⟩ := p
    have h' : hpush hh ob (fun n h' => k (mk n) h') = some r := h
    rw [hpush_eq] at h'
    exact ⟨ob, mk, rfl, h'⟩
theorem outK_eq (v : AV) (k : AV → R) : outK v k = k v := by
  cases v with
  | bool b => exact boolK_eq b k
  | int i n => exact retI_eq i n k
  | _ => rfl
end

end Go.Proofs.YtjldbkicpbchkaaGreat.Ev
