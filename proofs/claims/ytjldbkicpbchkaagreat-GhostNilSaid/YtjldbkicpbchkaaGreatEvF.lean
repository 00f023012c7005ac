/-
  That the evaluator is right: two values held against each other.
-/
import Derived.Test.YtjldbkicpbchkaaGreatEvE
import Derived.Laws.StructEq
import Derived.ChangeKeysEq
namespace Go.Proofs.YtjldbkicpbchkaaGreat.Ev
open Go Go.RowKit

theorem maxDepth_eq : Op.maxDepth = 9999 + 1 := rfl

theorem RV.ptr {φ : Phi} {b o : Nat} {v : Value} (h : RV φ (.ptr b o) v) : ∃ l, φ b = some l ∧ v = .pointer (some ⟨l.c, l.s + o, none⟩) := by simpa only [RV] using h
theorem RV.sl {φ : Phi} {b o len cap es : Nat} {ex : Bool} {v : Value} (h : RV φ (.sl b o len cap es ex) v) : ∃ l x cap', φ b = some l ∧ v = .slice (some ⟨l.c, x, none⟩) len cap' ∧ (x = l.s + o ∨ cap' = 0) ∧
      cap ≤ cap' ∧ (ex = true → cap' = cap) ∧ o + cap' * es ≤ l.n ∧ len ≤ cap := by simpa only [RV] using h
theorem RV.map {φ : Phi} {b : Nat} {v : Value} (h : RV φ (.map b) v) : ∃ l, φ b = some l ∧ v = .map (some l.c) := by simpa only [RV] using h
theorem RV.fn {φ : Phi} {f : Fn} {a c : List AV} {v : Value} (h : RV φ (.fn f a c) v) : ∃ xs ys : Array Value, v = .func f xs ys ∧ RVs φ a xs.toList ∧ RVs φ c ys.toList := by simpa only [RV] using h
theorem RV.ifc {φ : Phi} {t : TypeId} {x : AV} {v : Value} (h : RV φ (.ifc t x) v) : ∃ y, v = .iface t y ∧ RV φ x y := by simpa only [RV] using h
theorem RV.agg {φ : Phi} {cs : List AV} {v : Value} (h : RV φ (.agg cs) v) : ∃ xs : Array Value, v = .agg xs ∧ RVs φ cs xs.toList := by simpa only [RV] using h
theorem RV.tup {φ : Phi} {cs : List AV} {v : Value} (h : RV φ (.tup cs) v) : ∃ xs : Array Value, v = .tuple xs ∧ RVs φ cs xs.toList := by simpa only [RV] using h
theorem RV.nilp {φ : Phi} {v : Value} (h : RV φ .nilp v) : v = .pointer none := by simpa only [RV] using h
theorem RV.nils {φ : Phi} {v : Value} (h : RV φ .nils v) : v = .slice none 0 0 := by simpa only [RV] using h
theorem RV.nilm {φ : Phi} {v : Value} (h : RV φ .nilm v) : v = .map none := by simpa only [RV] using h
theorem RV.nilf {φ : Phi} {v : Value} (h : RV φ .nilf v) : v = .nilFunc := by simpa only [RV] using h
theorem RV.nili {φ : Phi} {v : Value} (h : RV φ .nili v) : v = .nilIface := by simpa only [RV] using h

theorem RVs.cons {φ : Phi} {x : AV} {xs : List AV} {vs : List Value} (h : RVs φ (x :: xs) vs) : ∃ y ys, vs = y :: ys ∧ RV φ x y ∧ RVs φ xs ys := by simpa only [RVs] using h

/-! ### Structs and arrays of plain cells -/
theorem cellEq_ok {P : Program} {d : Nat} {t : TypeId} {k : AK} (ht : match k with | .b => P.underlying t = some .bool | .i => ∃ j, P.underlying t = some (.int j) | .s => P.underlying t = some .string)
    {φ : Phi} {x y : AV} {x' y' : Value} (hx : RV φ x x') (hy : RV φ y y') {b : Bool} (h : cellEq k x y = some b)
    (w : World) : (Op.equalIn (d + 1) t x' y').run P w = .ok b w := by
  unfold cellEq at h
  split at h
  · rename_i k a k' b'
    cases hk : decide (k = k') with
    | false => simp [hk] at h
    | true =>
      simp [hk] at h
      have hk' : k = k' := by simpa using hk
      subst hk'
      obtain ⟨j, ht⟩ := ht
      rw [hx.int, hy.int]
      simp [Op.equalIn, run_underlying ht, h]
  · simp at h
    obtain ⟨p, rfl, rfl⟩ := hx.str
    obtain ⟨q, rfl, rfl⟩ := hy.str
    simp only at ht
    simp only [Op.equalIn, Sem.run_bind, run_underlying ht, Result.andThen_ok, Sem.run_pure, beq_toListBytes, toList_data, h]
  · simp at h
    rw [hx.bool, hy.bool]
    simp only at ht
    simp [Op.equalIn, run_underlying ht, h]
  · simp at h

theorem cellsEq_length : ∀ {ks : List AK} {xs ys : List AV} {b : Bool}, cellsEq ks xs ys = some b → xs.length = ks.length ∧ ys.length = ks.length := by
  intro ks
  induction ks with
  | nil => intro xs ys b h; cases xs <;> cases ys <;> simp [cellsEq] at h ⊢
  | cons k ks ih =>
    intro xs ys b h
    cases xs with
    | nil => simp [cellsEq] at h
    | cons x xs =>
      cases ys with
      | nil => simp [cellsEq] at h
      | cons y ys =>
        simp only [cellsEq] at h
        split at h <;> simp at h
        rename_i h2
        have := ih h2
        simp [this.1, this.2]

theorem cellsEq_append : ∀ {ps qs : List AK} {xs ys : List AV} {b : Bool}, cellsEq (ps ++ qs) xs ys = some b →
    ∃ b1 b2, cellsEq ps (xs.take ps.length) (ys.take ps.length) = some b1 ∧ cellsEq qs (xs.drop ps.length) (ys.drop ps.length) = some b2 ∧ b = (b1 && b2) := by
  intro ps
  induction ps with
  | nil => intro qs xs ys b h; exact ⟨true, b, by simp [cellsEq], by simpa using h, by simp⟩
  | cons p ps ih =>
    intro qs xs ys b h
    cases xs with
    | nil => simp [cellsEq] at h
    | cons x xs =>
      cases ys with
      | nil => simp [cellsEq] at h
      | cons y ys =>
        simp only [List.cons_append, cellsEq] at h
        split at h
        · rename_i b0 r h1 h2
          simp at h
          obtain ⟨b1, b2, e1, e2, rfl⟩ := ih h2
          refine ⟨b0 && b1, b2, ?_, by simpa using e2, by rw [← h, Bool.and_assoc]⟩
          simp [cellsEq, h1, e1]
        · simp at h

/-- The cells of a value of a type: a struct's or an array's row, or the one cell. -/
def CellsAre (P : Program) (φ : Phi) (t : TypeId) (v : Value) (xs : List AV) : Prop :=
  if isAggB P t then ∃ arr : Array Value, v = .agg arr ∧ RVs φ xs arr.toList else ∃ x, xs = [x] ∧ RV φ x v

theorem RVs.take {φ : Phi} : ∀ (n : Nat) {xs : List AV} {vs : List Value}, RVs φ xs vs → RVs φ (xs.take n) (vs.take n)
  | 0, _, _, _ => by simp [RVs]
  | n + 1, [], vs, h => by simp only [RVs] at h; subst h; simp [RVs]
  | n + 1, x :: xs, vs, h => by obtain ⟨y, ys, rfl, h1, h2⟩ := h.cons; simp only [List.take_succ_cons, RVs]; exact ⟨_, _, rfl, h1, RVs.take n h2⟩
theorem RVs.drop {φ : Phi} : ∀ (n : Nat) {xs : List AV} {vs : List Value}, RVs φ xs vs → RVs φ (xs.drop n) (vs.drop n)
  | 0, _, _, h => by simpa using h
  | n + 1, [], vs, h => by simp only [RVs] at h; subst h; simp [RVs]
  | n + 1, x :: xs, vs, h => by obtain ⟨y, ys, rfl, h1, h2⟩ := h.cons; simpa using RVs.drop n h2

theorem part_cells {P : Program} {φ : Phi} {f : TypeId} {s : Nat} (hs : size? P f = some s) (hu : (P.underlying f).isSome = true) {arr : Array Value} {XS : List AV} (hx : RVs φ XS arr.toList) (off : Nat)
    (hl : ((XS.drop off).take s).length = s) (h1 : isAggB P f = false → s = 1) :
    ∃ v, (∀ w, (part f arr off).run P w = .ok v w) ∧ CellsAre P φ f v ((XS.drop off).take s) := by
  have hk : loadKind P f = some (if isAggB P f then some s else none) := by
    unfold loadKind
    obtain ⟨d, hd⟩ := Option.isSome_iff_exists.1 hu
    rw [hd]
    cases isAggB P f <;> simp [hs]
  cases ha : isAggB P f with
  | true =>
    rw [ha] at hk
    refine ⟨.agg (arr.extract off (off + s)), fun w => by rw [run_part hk]; simp, ?_⟩
    simp only [CellsAre, ha, if_true]
    refine ⟨_, rfl, ?_⟩
    rw [Array.toList_extract]
    simp only [List.extract]
    rw [show off + s - off = s from by omega]
    exact (hx.drop off).take s
  | false =>
    rw [ha] at hk
    obtain rfl := h1 ha
    have hlt : off < XS.length := by
      simp only [List.length_take, List.length_drop] at hl; omega
    obtain ⟨v, hv, hr⟩ := hx.get (List.getElem?_eq_getElem hlt)
    have hv' : arr[off]? = some v := by simpa using hv
    refine ⟨v, fun w => by rw [run_part hk]; simp [hv'], ?_⟩
    simp only [CellsAre, ha, Bool.false_eq_true, if_false]
    refine ⟨XS[off], ?_, hr⟩
    rw [List.take_one, List.head?_drop, List.getElem?_eq_getElem hlt]; rfl

theorem plan_ok {P : Program} {φ : Phi} : ∀ (d D : Nat) (t : TypeId) (ks : List AK), d ≤ D → planOf P d t = some ks →
    ∀ (x y : Value) (xs ys : List AV) (b : Bool), CellsAre P φ t x xs → CellsAre P φ t y ys → cellsEq ks xs ys = some b →
      (∀ w, (Op.equalIn D t x y).run P w = .ok b w) ∧ (P.underlying t).isSome = true ∧ (isAggB P t = false → ks.length = 1) := by
  intro d
  induction d with
  | zero => intro D t ks _ h; simp [planOf] at h
  | succ d ih =>
    intro D t ks hD h x y xs ys b hx hy hb
    obtain ⟨D, rfl⟩ : ∃ m, D = m + 1 := ⟨D - 1, by omega⟩
    simp only [planOf] at h
    have atom : ∀ (k : AK), ks = [k] → isAggB P t = false → (match k with | .b => P.underlying t = some .bool | .i => ∃ j, P.underlying t = some (.int j) | .s => P.underlying t = some .string) →
        (∀ w, (Op.equalIn (D + 1) t x y).run P w = .ok b w) := by
      intro k hk ha ht
      subst hk
      simp only [CellsAre, ha, Bool.false_eq_true, if_false] at hx hy
      obtain ⟨x0, rfl, hx⟩ := hx
      obtain ⟨y0, rfl, hy⟩ := hy
      simp only [cellsEq] at hb
      cases hc : cellEq k x0 y0 with
      | none => simp [hc] at hb
      | some c =>
        simp [hc] at hb
        subst hb
        exact fun w => cellEq_ok ht hx hy hc w
    cases hu : P.underlying t with
    | none => rw [hu] at h; simp at h
    | some ut =>
      rw [hu] at h
      refine ⟨?_, rfl, ?_⟩
      · cases ut <;> simp at h
        case bool => exact atom .b h.symm (by simp [isAggB, hu]) hu
        case int k => exact atom .i h.symm (by simp [isAggB, hu]) ⟨k, hu⟩
        case string => exact atom .s h.symm (by simp [isAggB, hu]) hu
        case struct fs =>
          cases hst : P.stoodInHeld t with
          | true => simp [hst] at h
          | false =>
            simp [hst] at h
            have ha : isAggB P t = true := by simp [isAggB, hu]
            simp only [CellsAre, ha, if_true] at hx hy
            obtain ⟨ax, rfl, hx⟩ := hx
            obtain ⟨ay, rfl, hy⟩ := hy
            intro w
            have hf : P.fieldsOf t = fs := by simp [Program.fieldsOf, hu]
            rw [run_equalIn_struct w D t ax ay (by rw [hf]; exact hu) hst, hf]
            -- the fields, one behind the other
            have key : ∀ (l : List Field) (off : Nat) (ks : List AK) (b : Bool), planOf.go P d l off = some ks → cellsEq ks (xs.drop off) (ys.drop off) = some b →
                ∀ w, (Op.eqFields D ax ay l).run P w = .ok b w := by
              intro l
              induction l with
              | nil =>
                intro off ks b hg hc w
                simp [planOf.go] at hg
                subst hg
                have := cellsEq_length hc
                cases hxs : xs.drop off with
                | nil => cases hys : ys.drop off with
                  | nil => rw [hxs, hys] at hc; simp [cellsEq] at hc; subst hc; simp [Op.eqFields]
                  | cons _ _ => rw [hxs, hys] at hc; simp [cellsEq] at hc
                | cons _ _ => rw [hxs] at hc; simp [cellsEq] at hc
              | cons f l ihl =>
                intro off ks b hg hc w
                simp only [planOf.go] at hg
                cases hn : (f.name == "_") with
                | true => simp [hn] at hg
                | false =>
                  cases ho : (Nat.beq f.offset off) with
                  | false => simp [hn, ho] at hg
                  | true =>
                    simp only [hn, ho, cond_false, Bool.not_true] at hg
                    have ho' : f.offset = off := Nat.eq_of_beq_eq_true ho
                    cases hp : planOf P d f.type with
                    | none => simp [hp] at hg
                    | some p =>
                      cases hsz : size? P f.type with
                      | none => simp [hp, hsz] at hg
                      | some s =>
                        cases hps : Nat.beq p.length s with
                        | false => simp [hp, hsz, hps] at hg
                        | true =>
                          have hps' : p.length = s := Nat.eq_of_beq_eq_true hps
                          cases hq : planOf.go P d l (off + s) with
                          | none => simp [hp, hsz, hps, hq] at hg
                          | some q =>
                            simp [hp, hsz, hps, hq] at hg
                            subst hg
                            obtain ⟨b1, b2, e1, e2, rfl⟩ := cellsEq_append hc
                            have hl := cellsEq_length e1
                            rw [hps'] at e1 e2 hl
                            -- what the part's plan says, of any two values
                            have hfi := fun x y hx hy => ih D f.type p (by omega) hp x y _ _ b1 hx hy e1
                            have hone : isAggB P f.type = false → s = 1 := by
                              intro hna
                              cases hd : d with
                              | zero => rw [hd] at hp; simp [planOf] at hp
                              | succ d' =>
                                rw [hd] at hp
                                simp only [planOf] at hp
                                cases hut : P.underlying f.type with
                                | none => rw [hut] at hp; simp at hp
                                | some u =>
                                  rw [hut] at hp
                                  unfold isAggB at hna
                                  rw [hut] at hna
                                  cases u <;> simp at hp hna <;> subst hp <;> simpa using hps'.symm
                            have hun : (P.underlying f.type).isSome = true := by
                              cases hd : d with
                              | zero => rw [hd] at hp; simp [planOf] at hp
                              | succ d' =>
                                rw [hd] at hp
                                simp only [planOf] at hp
                                cases hut : P.underlying f.type with
                                | none => rw [hut] at hp; simp at hp
                                | some u => rfl
                            obtain ⟨vx, hvx, cx⟩ := part_cells hsz hun hx off hl.1 hone
                            obtain ⟨vy, hvy, cy⟩ := part_cells hsz hun hy off hl.2 hone
                            have hrun := (hfi vx vy cx cy).1
                            have hne : f.name ≠ "_" := by simpa using hn
                            simp only [Op.eqFields, ho', hne, ne_eq, not_false_eq_true, if_true, Sem.run_bind, hvx, hvy, Result.andThen_ok, hrun]
                            cases b1 with
                            | false => simp
                            | true =>
                              simp only [Bool.not_true, Bool.false_eq_true, if_false, Bool.true_and]
                              exact ihl (off + s) q b2 hq (by simpa [List.drop_drop] using e2) w
            exact key fs.toList 0 ks b h (by simpa using hb) w
        case array n e =>
          cases hp : planOf P d e with
          | none => simp [hp] at h
          | some p =>
            cases hsz : size? P e with
            | none => simp [hp, hsz] at h
            | some s =>
              cases hps : Nat.beq p.length s with
              | false => simp [hp, hsz, hps] at h
              | true =>
                simp [hp, hsz, hps] at h
                have hps' : p.length = s := Nat.eq_of_beq_eq_true hps
                have ha : isAggB P t = true := by simp [isAggB, hu]
                simp only [CellsAre, ha, if_true] at hx hy
                obtain ⟨ax, rfl, hx⟩ := hx
                obtain ⟨ay, rfl, hy⟩ := hy
                intro w
                obtain ⟨i, hi, hsi⟩ := size?_eq hsz
                rw [run_equalIn_array w D ax ay hu hi]
                have hce : P.cellsOf e = s := by simp [Program.cellsOf, hi, hsi]
                rw [hce]
                have hone : isAggB P e = false → s = 1 := by
                  intro hna
                  cases hd : d with
                  | zero => rw [hd] at hp; simp [planOf] at hp
                  | succ d' =>
                    rw [hd] at hp
                    simp only [planOf] at hp
                    cases hut : P.underlying e with
                    | none => rw [hut] at hp; simp at hp
                    | some u =>
                      rw [hut] at hp
                      unfold isAggB at hna
                      rw [hut] at hna
                      cases u <;> simp at hp hna <;> subst hp <;> simpa using hps'.symm
                have hun : (P.underlying e).isSome = true := by
                  cases hd : d with
                  | zero => rw [hd] at hp; simp [planOf] at hp
                  | succ d' =>
                    rw [hd] at hp
                    simp only [planOf] at hp
                    cases hut : P.underlying e with
                    | none => rw [hut] at hp; simp at hp
                    | some u => rfl
                have key : ∀ (m j : Nat) (b : Bool), cellsEq (planOf.rep m p) (xs.drop (j * s)) (ys.drop (j * s)) = some b →
                    ∀ w, (Op.eqItems D e s ax ay (List.range' j m)).run P w = .ok b w := by
                  intro m
                  induction m with
                  | zero =>
                    intro j b hc w
                    simp only [planOf.rep] at hc
                    cases hxs : xs.drop (j * s) with
                    | nil => cases hys : ys.drop (j * s) with
                      | nil => rw [hxs, hys] at hc; simp [cellsEq] at hc; subst hc; simp [Op.eqItems]
                      | cons _ _ => rw [hxs, hys] at hc; simp [cellsEq] at hc
                    | cons _ _ => rw [hxs] at hc; simp [cellsEq] at hc
                  | succ m ihm =>
                    intro j b hc w
                    simp only [planOf.rep] at hc
                    obtain ⟨b1, b2, e1, e2, rfl⟩ := cellsEq_append hc
                    have hl := cellsEq_length e1
                    rw [hps'] at e1 e2 hl
                    obtain ⟨vx, hvx, cx⟩ := part_cells hsz hun hx (j * s) hl.1 hone
                    obtain ⟨vy, hvy, cy⟩ := part_cells hsz hun hy (j * s) hl.2 hone
                    have hrun := (ih D e p (by omega) hp vx vy _ _ b1 cx cy e1).1
                    rw [List.range'_succ]
                    simp only [Op.eqItems, Sem.run_bind, hvx, hvy, Result.andThen_ok, hrun]
                    cases b1 with
                    | false => simp
                    | true =>
                      simp only [Bool.not_true, Bool.false_eq_true, if_false, Bool.true_and]
                      exact ihm (j + 1) b2 (by simpa [List.drop_drop, Nat.add_mul] using e2) w
                rw [List.range_eq_range']
                exact key n 0 b (by rw [h]; simpa using hb) w
      · intro ha
        unfold isAggB at ha
        rw [hu] at ha
        cases ut <;> simp at h ha <;> subst h <;> rfl

end Go.Proofs.YtjldbkicpbchkaaGreat.Ev
