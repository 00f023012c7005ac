/-
  That the evaluator is right: what an operation looks at.
-/
import Derived.Test.YtjldbkicpbchkaaGreatEvZ
namespace Go.Proofs.YtjldbkicpbchkaaGreat.Ev
open Go Go.RowKit

theorem ev_congr {e e' : Env} {x : Opd} (h : ∀ t ∈ x.tmps, e.getD t .undef = e'.getD t .undef) : x.ev e = x.ev e' := by
  cases x with
  | t i => exact h i (by simp [Opd.tmps])
  | v x => rfl

section
variable {S : ASys} {call : CallF} {e e' : Env} {h : AHeap}

theorem map_congr_opds {xs : List Opd} (k : ∀ x ∈ xs, x.ev e = x.ev e') : xs.map (·.ev e) = xs.map (·.ev e') := List.map_congr_left k

theorem fillEv_congr : ∀ (ps : List (Nat × Nat × Opd)) (cs : List AV), (∀ x ∈ ps.map (·.2.2), x.ev e = x.ev e') → fillEv e cs ps = fillEv e' cs ps
  | [], cs, _ => rfl
  | (off, size, x) :: ps, cs, k => by
    have hx := k x (by simp)
    simp only [fillEv, hx]
    cases (Nat.beq (x.ev e').cells.length size && Nat.ble (off + (x.ev e').cells.length) cs.length) with
    | false => rfl
    | true => exact fillEv_congr ps _ fun y hy => k y (by simp at hy ⊢; exact .inr hy)

theorem bounds_congr {len cap : Nat} {lo hi mx : Option Opd} (k : ∀ x ∈ lo.toList ++ hi.toList ++ mx.toList, x.ev e = x.ev e') : bounds e len cap lo hi mx = bounds e' len cap lo hi mx := by
  have h1 : ∀ x, lo = some x → x.ev e = x.ev e' := fun x hx => k x (by simp [hx])
  have h2 : ∀ x, hi = some x → x.ev e = x.ev e' := fun x hx => k x (by simp [hx])
  have h3 : ∀ x, mx = some x → x.ev e = x.ev e' := fun x hx => k x (by simp [hx])
  unfold bounds
  cases lo <;> cases hi <;> cases mx <;> simp_all

theorem POp.run_congr {o : POp} (k : ∀ x ∈ (IOp.p o).opds, x.ev e = x.ev e') : o.run e = o.run e' := by
  cases o with
  | mov x => simp only [POp.run, k x (by simp [IOp.opds])]
  | chk x => simp only [POp.run, k x (by simp [IOp.opds])]
  | pick c a b => simp only [POp.run, k c (by simp [IOp.opds]), k a (by simp [IOp.opds]), k b (by simp [IOp.opds])]
  | bin op kk x y => simp only [POp.run, k x (by simp [IOp.opds]), k y (by simp [IOp.opds])]
  | un op x => simp only [POp.run, k x (by simp [IOp.opds])]
  | toInt kk x => simp only [POp.run, k x (by simp [IOp.opds])]
  | toStr x => simp only [POp.run, k x (by simp [IOp.opds])]
  | ifc t x => simp only [POp.run, k x (by simp [IOp.opds])]
  | fn f a c => simp only [POp.run, map_congr_opds (xs := a) fun x hx => k x (by simp [IOp.opds, hx]), map_congr_opds (xs := c) fun x hx => k x (by simp [IOp.opds, hx])]
  | build z ps => simp only [POp.run, fillEv_congr ps z k]
  | fieldA off x => simp only [POp.run, k x (by simp [IOp.opds])]
  | field ag off size x => simp only [POp.run, k x (by simp [IOp.opds])]
  | idxA n es x i =>
    have h1 := k x (by simp [IOp.opds])
    have h2 := k i (by simp [IOp.opds])
    cases n <;> simp only [POp.run, h1, h2]
  | idxS x i => simp only [POp.run, k x (by simp [IOp.opds]), k i (by simp [IOp.opds])]
  | idx len ag es x i => simp only [POp.run, k x (by simp [IOp.opds]), k i (by simp [IOp.opds])]
  | extract x i => simp only [POp.run, k x (by simp [IOp.opds])]
  | slV es x lo hi mx =>
    have hb : ∀ len cap, bounds e len cap lo hi mx = bounds e' len cap lo hi mx := fun len cap => bounds_congr fun y hy => k y (by simp only [IOp.opds, List.mem_cons]; exact .inr hy)
    simp only [POp.run, k x (by simp [IOp.opds]), hb]
  | slS x lo hi =>
    have hb : ∀ len cap, bounds e len cap lo hi none = bounds e' len cap lo hi none := fun len cap => bounds_congr fun y hy => k y (by simp only [IOp.opds, List.mem_cons]; simp at hy ⊢; exact .inr hy)
    simp only [POp.run, k x (by simp [IOp.opds]), hb]
  | lenS x => simp only [POp.run, k x (by simp [IOp.opds])]
  | len x => simp only [POp.run, k x (by simp [IOp.opds])]
  | lenA n => rfl
  | mm mx x xs => simp only [POp.run, k x (by simp [IOp.opds]), map_congr_opds (xs := xs) fun y hy => k y (by simp [IOp.opds, hy])]

theorem ROp.run_congr {o : ROp} (k : ∀ x ∈ (IOp.r o).opds, x.ev e = x.ev e') : o.run e h = o.run e' h := by
  cases o with
  | load n x => cases n <;> simp only [ROp.run, k x (by simp [IOp.opds])]
  | b2s x => simp only [ROp.run, k x (by simp [IOp.opds])]
  | slP n es x lo hi mx =>
    have hb : ∀ len cap, bounds e len cap lo hi mx = bounds e' len cap lo hi mx := fun len cap => bounds_congr fun y hy => k y (by simp only [IOp.opds, List.mem_cons]; exact .inr hy)
    simp only [ROp.run, k x (by simp [IOp.opds]), hb]
  | look z ok m x => simp only [ROp.run, k m (by simp [IOp.opds]), k x (by simp [IOp.opds])]
  | lenM x => simp only [ROp.run, k x (by simp [IOp.opds])]

theorem chk_congr {x : Opd} (k : ∀ y ∈ (IOp.k x).opds, y.ev e = y.ev e') : chkRun S (x.ev e) = chkRun S (x.ev e') := by rw [k x (by simp [IOp.opds])]

theorem NOp.run_congr {o : NOp} (k : ∀ x ∈ (IOp.n o).opds, x.ev e = x.ev e') : o.run e = o.run e' := by
  cases o with
  | new z ty => rfl
  | box ty x => simp only [NOp.run, k x (by simp [IOp.opds])]
  | lit ty len es z ps => simp only [NOp.run, fillEv_congr ps z k]
  | mks ty es by' z len cap => simp only [NOp.run, k len (by simp [IOp.opds]), k cap (by simp [IOp.opds])]
  | s2b ty x => simp only [NOp.run, k x (by simp [IOp.opds])]
  | mkm => rfl

theorem AOp.run_congr {o : AOp} (k : ∀ x ∈ (IOp.a o).opds, x.ev e = x.ev e') : o.run e h = o.run e' h := by
  cases o with
  | store n x y => simp only [AOp.run, k x (by simp [IOp.opds]), k y (by simp [IOp.opds])]
  | app ty es by' x y => simp only [AOp.run, k x (by simp [IOp.opds]), k y (by simp [IOp.opds])]
  | copy es x y => simp only [AOp.run, k x (by simp [IOp.opds]), k y (by simp [IOp.opds])]
  | mset m x y => simp only [AOp.run, k m (by simp [IOp.opds]), k x (by simp [IOp.opds]), k y (by simp [IOp.opds])]
  | mdel m x => simp only [AOp.run, k m (by simp [IOp.opds]), k x (by simp [IOp.opds])]

theorem COp.run_congr {o : COp} (k : ∀ x ∈ (IOp.c o).opds, x.ev e = x.ev e') : o.run S call e h = o.run S call e' h := by
  cases o with
  | fn f xs => simp only [COp.run, map_congr_opds (xs := xs) fun y hy => k y (by simpa [IOp.opds] using hy)]
  | val x xs => simp only [COp.run, k x (by simp [IOp.opds]), map_congr_opds (xs := xs) fun y hy => k y (by simp [IOp.opds, hy])]
  | inv x m xs => simp only [COp.run, k x (by simp [IOp.opds]), map_congr_opds (xs := xs) fun y hy => k y (by simp [IOp.opds, hy])]

theorem opds_agree {c : IOper} (k : ∀ t ∈ c.uses, e.getD t .undef = e'.getD t .undef) : ∀ x ∈ c.k.opds, x.ev e = x.ev e' := fun x hx =>
  ev_congr fun t ht => k t (List.mem_append_right _ (List.mem_flatMap.2 ⟨x, hx, ht⟩))

theorem IOper.run_congr {c : IOper} (k : ∀ t ∈ c.uses, e.getD t .undef = e'.getD t .undef) : c.k.run S call e h = c.k.run S call e' h := by
  have ko := opds_agree k
  obtain ⟨d, g, io⟩ := c
  cases io with
  | p o => simp only [IOp.run, POp.run_congr ko]
  | k o => simp only [IOp.run, chk_congr ko]
  | r o => simp only [IOp.run, ROp.run_congr ko]
  | n o => simp only [IOp.run, NOp.run_congr ko]
  | a o => simp only [IOp.run, AOp.run_congr ko]
  | c o => simp only [IOp.run, COp.run_congr ko]

theorem IOper.on_congr {c : IOper} (k : ∀ t ∈ c.uses, e.getD t .undef = e'.getD t .undef) : c.on e = c.on e' := by
  unfold IOper.on
  cases hg : c.g with
  | none => rfl
  | some q =>
    obtain ⟨t, want⟩ := q
    have := k t (List.mem_append_left _ (by simp [hg]))
    simp only [this]

/-! ### A new block changes nothing of what was read -/
theorem get_push_some {h : AHeap} (wf : ∀ b, h.n ≤ b → h.get b = none) {b : Nat} {o : AObj} (hg : h.get b = some o) (ob : AObj) : (h.push ob).get b = some o := by
  have : b < h.n := Nat.lt_of_not_le fun hle => by rw [wf b hle] at hg; cases hg
  rw [AHeap.get_push_ne _ _ (by omega)]
  exact hg

theorem rd_push {h : AHeap} (wf : ∀ b, h.n ≤ b → h.get b = none) {b o n : Nat} {cs : List AV} (hr : h.rd b o n = some cs) (ob : AObj) : (h.push ob).rd b o n = some cs := by
  obtain ⟨cs', ty, ro, sh, kin, hg, _⟩ := rd_parts hr
  have := get_push_some wf hg ob
  unfold AHeap.rd at hr ⊢
  rw [this]
  rw [hg] at hr
  exact hr

theorem ROp.run_push {h : AHeap} (wf : ∀ b, h.n ≤ b → h.get b = none) {r : ROp} {v : AV} (hr : r.run e h = some v) (ob : AObj) : r.run e (h.push ob) = some v := by
  cases r with
  | load n x =>
    cases n with
    | none =>
      simp only [ROp.run] at hr ⊢
      split at hr
      · rename_i b o hb
        split at hr
        · rename_i u hu; rw [rd_push wf hu]; exact hr
        · simp at hr
      · simp at hr
    | some n =>
      simp only [ROp.run] at hr ⊢
      split at hr
      · rename_i b o hb
        split at hr
        · rename_i u hu; rw [rd_push wf hu]; exact hr
        · simp at hr
      · simp at hr
  | b2s x =>
    simp only [ROp.run] at hr ⊢
    split at hr
    · exact hr
    · rename_i b o len cap es ex hb
      cases hq : Nat.beq es 1 with
      | false => rw [hq] at hr; simp at hr
      | true =>
        rw [hq] at hr
        simp only [cond_true] at hr ⊢
        split at hr
        · rename_i u hu; rw [rd_push wf hu]; exact hr
        · simp at hr
    · simp at hr
  | slP n es x lo hi mx =>
    simp only [ROp.run] at hr ⊢
    split at hr
    · rename_i b o l hh m hb hbd
      split at hr
      · rename_i cs ty ro sh kin hg
        rw [get_push_some wf hg]
        exact hr
      · simp at hr
    · simp at hr
  | look z ok m x =>
    simp only [ROp.run] at hr ⊢
    split at hr
    · exact hr
    · split at hr
      · rename_i es hg
        rw [get_push_some wf hg]
        exact hr
      · simp at hr
    · simp at hr
  | lenM m =>
    simp only [ROp.run] at hr ⊢
    split at hr
    · exact hr
    · split at hr
      · rename_i es hg
        rw [get_push_some wf hg]
        exact hr
      · simp at hr
    · simp at hr

theorem NOp.kin_nil {o : NOp} {ob : AObj} {mk : Nat → AV} (hr : o.run e = some (ob, mk)) : ob.kin = [] ∧ ∀ b, (mk b).block? = some b := by
  cases o with
  | new z ty => simp [NOp.run] at hr; obtain ⟨rfl, rfl⟩ := hr; exact ⟨rfl, fun _ => rfl⟩
  | box ty x => simp [NOp.run] at hr; obtain ⟨rfl, rfl⟩ := hr; exact ⟨rfl, fun _ => rfl⟩
  | lit ty len es z ps => simp only [NOp.run] at hr; split at hr <;> simp at hr; obtain ⟨rfl, rfl⟩ := hr; exact ⟨rfl, fun _ => rfl⟩
  | mks ty es by' z len cap =>
    simp only [NOp.run] at hr
    split at hr
    · rename_i l c _ _
      cases hq : (Nat.ble l c && Nat.ble (c * by') 140737488355328 && Nat.ble c 140737488355328) with
      | false => rw [hq] at hr; simp at hr
      | true => rw [hq] at hr; simp at hr; obtain ⟨rfl, rfl⟩ := hr; exact ⟨rfl, fun _ => rfl⟩
    · simp at hr
  | s2b ty x => simp only [NOp.run] at hr; split at hr <;> simp at hr; obtain ⟨rfl, rfl⟩ := hr; exact ⟨rfl, fun _ => rfl⟩
  | mkm => simp [NOp.run] at hr; obtain ⟨rfl, rfl⟩ := hr; exact ⟨rfl, fun _ => rfl⟩

end

mutual
theorem AV.beq_eq : ∀ (x y : AV), AV.beq x y = true → x = y
  | .bool a, y, h => by cases y <;> simp [AV.beq] at h; rw [h]
  | .int k a, y, h => by cases y <;> simp [AV.beq] at h; rw [h.1, h.2]
  | .str a, y, h => by cases y <;> simp [AV.beq] at h; rw [h]
  | .nilp, y, h => by cases y <;> simp [AV.beq] at h; rfl
  | .ptr b o, y, h => by cases y <;> simp [AV.beq] at h; rw [h.1, h.2]
  | .nils, y, h => by cases y <;> simp [AV.beq] at h; rfl
  | .sl b o l c es ex, y, h => by cases y <;> simp [AV.beq] at h; obtain ⟨⟨⟨⟨⟨h1, h2⟩, h3⟩, h4⟩, h5⟩, h6⟩ := h; rw [h1, h2, h3, h4, h5, h6]
  | .nilm, y, h => by cases y <;> simp [AV.beq] at h; rfl
  | .map b, y, h => by cases y <;> simp [AV.beq] at h; rw [h]
  | .nilf, y, h => by cases y <;> simp [AV.beq] at h; rfl
  | .fn f a c, y, h => by
    cases y <;> simp [AV.beq] at h
    obtain ⟨⟨h1, h2⟩, h3⟩ := h
    rw [h1, AV.beqs_eq _ _ h2, AV.beqs_eq _ _ h3]
  | .nili, y, h => by cases y <;> simp [AV.beq] at h; rfl
  | .ifc t v, y, h => by
    cases y <;> simp [AV.beq] at h
    rw [h.1, AV.beq_eq _ _ h.2]
  | .agg a, y, h => by
    cases y <;> simp [AV.beq] at h
    rw [AV.beqs_eq _ _ h]
  | .tup a, y, h => by
    cases y <;> simp [AV.beq] at h
    rw [AV.beqs_eq _ _ h]
theorem AV.beqs_eq : ∀ (xs ys : List AV), AV.beqs xs ys = true → xs = ys
  | [], ys, h => by cases ys <;> simp [AV.beqs] at h; rfl
  | x :: xs, ys, h => by
    cases ys <;> simp [AV.beqs] at h
    rw [AV.beq_eq _ _ h.1, AV.beqs_eq _ _ h.2]
end

end Go.Proofs.YtjldbkicpbchkaaGreat.Ev
