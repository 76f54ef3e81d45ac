/- Maps that are owned: looked up, set, deleted from. -/
import Derived.Test.YticjjdhaikbdaaaFw13
import Derived.MapKept
namespace Go.Proofs.Yticjjdhaikbdaaa
open Go Go.RowKit Go.MapKept
set_option linter.unusedVariables false
set_option linter.unusedSimpArgs false

/-- How keys stand for plain ones. -/
structure Keys (κ : Type) where
  enc : κ → Value
  desc : TypeDesc
  inj : ∀ a b, enc a = enc b → a = b
  isKey : ∀ a, IsKey desc (enc a)
def strKeys : Keys ByteArray := ⟨fun s => .string s, .string, fun a b h => by cases h; rfl, fun _ => trivial⟩
def intKeys (k : IntKind) : Keys Int := ⟨fun n => .int k n, .int k, fun a b h => by cases h; rfl, fun _ => rfl⟩
section
variable {κ : Type}
def MapIs (E : Keys κ) (es : Array MapEntry) (clock : Nat) (m : List (κ × Value)) : Prop :=
  Stamped es clock ∧ es.toList.map (fun e => (e.key, e.val)) = m.map fun p => (E.enc p.1, p.2)
def ownM (E : Keys κ) (b : Nat) (m : List (κ × Value)) : HProp := fun r => ∃ es clock, MapIs E es clock m ∧ pt b (.map es clock) r
theorem ownM_open {E : Keys κ} {b : Nat} {m : List (κ × Value)} {F : List HProp} {h : Heap} (H : sat (ownM E b m :: F) h) : ∃ es clock, MapIs E es clock m ∧ sat (pt b (.map es clock) :: F) h := by
  obtain ⟨r, ⟨r1, r2, hd, e, ⟨es, clock, hm, hp⟩, h2⟩, hs⟩ := H
  exact ⟨es, clock, hm, r, ⟨r1, r2, hd, e, hp, h2⟩, hs⟩
theorem ownM_shut {E : Keys κ} {b : Nat} {m : List (κ × Value)} {F : List HProp} {h : Heap} {es : Array MapEntry} {clock : Nat} (hm : MapIs E es clock m) (H : sat (pt b (.map es clock) :: F) h) : sat (ownM E b m :: F) h :=
  H.imp fun r hr => ⟨es, clock, hm, hr⟩
theorem ownM_new (E : Keys κ) {b : Nat} {F : List HProp} {h : Heap} (H : sat (pt b (.map #[] 0) :: F) h) : sat (ownM E b [] :: F) h := ownM_shut ⟨stamped_empty 0, rfl⟩ H
variable {E : Keys κ} {es : Array MapEntry} {clock : Nat} {m : List (κ × Value)}
theorem MapIs.key (hm : MapIs E es clock m) : ∀ x ∈ es.toList, IsKey E.desc x.key := by
  intro x hx
  have : (x.key, x.val) ∈ es.toList.map (fun e => (e.key, e.val)) := List.mem_map.2 ⟨x, hx, rfl⟩
  rw [hm.2] at this
  obtain ⟨p, _, hp⟩ := List.mem_map.1 this
  have : x.key = E.enc p.1 := (congrArg Prod.fst hp).symm
  rw [this]
  exact E.isKey _
theorem MapIs.at (hm : MapIs E es clock m) {j : Nat} {e : MapEntry} (hj : es.toList[j]? = some e) : ∃ p, m[j]? = some p ∧ e.key = E.enc p.1 ∧ e.val = p.2 := by
  have h1 : (es.toList.map (fun e => (e.key, e.val)))[j]? = some (e.key, e.val) := by rw [List.getElem?_map, hj]; rfl
  rw [hm.2, List.getElem?_map] at h1
  cases hp : m[j]? with
  | none => rw [hp] at h1; cases h1
  | some p =>
    rw [hp] at h1
    simp only [Option.map_some, Option.some.injEq, Prod.mk.injEq] at h1
    exact ⟨p, rfl, h1.1.symm, h1.2.symm⟩
theorem MapIs.nodup (hm : MapIs E es clock m) : (m.map (·.1)).Nodup := by
  have h3 := hm.1.2.2
  have e : es.toList.map (·.key) = (m.map (·.1)).map E.enc := by
    have := congrArg (List.map Prod.fst) hm.2
    simpa [List.map_map, Function.comp_def] using this
  rw [e] at h3
  exact (List.pairwise_map.1 h3).imp fun h e => h (by rw [e])
theorem MapIs.size (hm : MapIs E es clock m) : es.size = m.length := by
  have := congrArg List.length hm.2
  simpa using this
variable [DecidableEq κ]
def lkM (m : List (κ × Value)) (k : κ) : Option Value := (m.find? fun p => decide (p.1 = k)).map (·.2)
def updM (m : List (κ × Value)) (k : κ) (v : Value) : List (κ × Value) :=
  if m.any (fun p => decide (p.1 = k)) then m.map (fun p => if p.1 = k then (k, v) else p) else m ++ [(k, v)]
def delM (m : List (κ × Value)) (k : κ) : List (κ × Value) := m.filter fun p => !decide (p.1 = k)
/-- What a look finds. -/
theorem MapIs.find (hm : MapIs E es clock m) (k : κ) : ∃ f, Instr.findNow E.desc (E.enc k) es.toList 0 = some f ∧ f.map (·.2) = lkM m k ∧
    ((f = none ∧ (∀ p ∈ m, p.1 ≠ k) ∧ ∀ x ∈ es.toList, x.key ≠ E.enc k) ∨ ∃ j e v, f = some (j, v) ∧ es.toList[j]? = some e ∧ e.key = E.enc k ∧ m[j]? = some (k, v)) := by
  rcases findNow_spec (E.isKey k) es.toList 0 hm.key with ⟨h1, h2⟩ | ⟨j, e, h1, h2, h3⟩
  · have hno : ∀ p ∈ m, p.1 ≠ k := fun p hp hk => by
      have : (E.enc p.1, p.2) ∈ es.toList.map (fun e => (e.key, e.val)) := by rw [hm.2]; exact List.mem_map.2 ⟨p, hp, rfl⟩
      obtain ⟨x, hx, he⟩ := List.mem_map.1 this
      exact h2 x hx (by have := congrArg Prod.fst he; rw [← hk]; exact this)
    refine ⟨none, h1, ?_, .inl ⟨rfl, hno, h2⟩⟩
    have : m.find? (fun p => decide (p.1 = k)) = none := List.find?_eq_none.2 fun p hp => by simpa using hno p hp
    simp [lkM, this]
  · obtain ⟨p, hp, hk, hv⟩ := hm.at h2
    have hpk : p.1 = k := E.inj _ _ (by rw [← hk, h3])
    rw [Nat.zero_add] at h1
    refine ⟨some (j, e.val), h1, ?_, .inr ⟨j, e, e.val, rfl, h2, h3, by rw [hp, hv, ← hpk]⟩⟩
    have hf : m.find? (fun q => decide (q.1 = k)) = some p := by
      have hmem := List.mem_of_getElem? hp
      have hn := hm.nodup
      clear hp hm h1 h2 h3
      induction m with
      | nil => cases hmem
      | cons q m ih =>
        simp only [List.map_cons, List.nodup_cons] at hn
        rcases List.mem_cons.1 hmem with rfl | hmem
        · simp [List.find?_cons, hpk]
        · have hne : q.1 ≠ k := fun e => hn.1 (by rw [e, ← hpk]; exact List.mem_map.2 ⟨p, hmem, rfl⟩)
          simp only [List.find?_cons, hne, decide_false]
          exact ih hmem hn.2
    rw [lkM, hf]
    simp [hv]
theorem map_modify {α β : Type} (g : α → β) (f : α → α) (f' : β → β) (hg : ∀ x, g (f x) = f' (g x)) : ∀ (l : List α) (j : Nat), (l.modify j f).map g = (l.map g).modify j f'
  | [], j => by simp
  | x :: l, 0 => by simp [hg]
  | x :: l, j + 1 => by simp [map_modify g f f' hg l j]
theorem map_erase {α β : Type} (g : α → β) : ∀ (l : List α) (j : Nat), (l.eraseIdx j).map g = (l.map g).eraseIdx j
  | [], j => by simp
  | x :: l, 0 => by simp
  | x :: l, j + 1 => by simp [map_erase g l j]
theorem upd_modify : ∀ (m : List (κ × Value)) (j : Nat) (k : κ) (v u : Value), (m.map (·.1)).Nodup → m[j]? = some (k, u) → m.modify j (fun p => (k, v)) = m.map fun p => if p.1 = k then (k, v) else p
  | [], j, k, v, u, _, h => by simp at h
  | p :: m, 0, k, v, u, hn, h => by
    simp only [List.getElem?_cons_zero, Option.some.injEq] at h
    subst h
    simp only [List.map_cons, List.nodup_cons] at hn
    simp only [List.modify_zero_cons, List.map_cons, if_true, List.cons.injEq, true_and]
    symm
    conv => rhs; rw [← List.map_id m]
    apply List.map_congr_left
    intro q hq
    have : q.1 ≠ k := fun e => hn.1 (List.mem_map.2 ⟨q, hq, e⟩)
    simp [this]
  | p :: m, j + 1, k, v, u, hn, h => by
    simp only [List.map_cons, List.nodup_cons] at hn
    have hj : m[j]? = some (k, u) := by simpa using h
    have hp : p.1 ≠ k := fun e => hn.1 (by rw [e]; exact List.mem_map.2 ⟨(k, u), List.mem_of_getElem? hj, rfl⟩)
    simp only [List.modify_succ_cons, List.map_cons, hp, if_false]
    rw [upd_modify m j k v u hn.2 hj]
theorem del_erase : ∀ (m : List (κ × Value)) (j : Nat) (k : κ) (u : Value), (m.map (·.1)).Nodup → m[j]? = some (k, u) → m.eraseIdx j = delM m k
  | [], j, k, u, _, h => by simp at h
  | p :: m, 0, k, u, hn, h => by
    simp only [List.getElem?_cons_zero, Option.some.injEq] at h
    subst h
    simp only [List.map_cons, List.nodup_cons] at hn
    simp only [List.eraseIdx_cons_zero, delM, List.filter_cons, decide_true, Bool.not_true]
    symm
    apply List.filter_eq_self.2
    intro q hq
    have : q.1 ≠ k := fun e => hn.1 (List.mem_map.2 ⟨q, hq, e⟩)
    simp [this]
  | p :: m, j + 1, k, u, hn, h => by
    simp only [List.map_cons, List.nodup_cons] at hn
    have hj : m[j]? = some (k, u) := by simpa using h
    have hp : p.1 ≠ k := fun e => hn.1 (by rw [e]; exact List.mem_map.2 ⟨(k, u), List.mem_of_getElem? hj, rfl⟩)
    have := del_erase m j k u hn.2 hj
    simp only [List.eraseIdx_cons_succ, delM, List.filter_cons, hp, decide_false, Bool.not_false, if_true]
    rw [this]
    rfl
end
theorem mapUpdate_sat {κ : Type} [DecidableEq κ] {P : Program} {E : Keys κ} {T kt et : TypeId} {b : Nat} {m : List (κ × Value)} {F : List HProp} {h : Heap} {k : κ} {v : Value} {K : Heap → Prop}
    (hT : P.underlying T = some (.map kt et)) (hd : P.underlying kt = some E.desc) (H : sat (ownM E b m :: F) h) (hK : ∀ h', sat (ownM E b (updM m k v) :: F) h' → K h') :
    RunU P (Instr.mapUpdate T (.map (some b)) (E.enc k) v) h K := by
  intro w hw
  subst hw
  obtain ⟨es, clock, hm, H2⟩ := ownM_open H
  have hb := H2.get
  obtain ⟨f, hf, hl, hcase⟩ := hm.find k
  rcases hcase with ⟨rfl, hno, hnk⟩ | ⟨j, e, u, rfl, hj, hek, hmj⟩
  · refine ⟨{ w with heap := w.heap.setIfInBounds b (.map (es.push { key := E.enc k, val := v, born := clock }) (clock + 1)) }, ?_, ⟨rfl, rfl, rfl⟩, hK _ (ownM_shut (es := es.push { key := E.enc k, val := v, born := clock }) (clock := clock + 1) ⟨stamped_push hm.1 hnk, ?_⟩ (H2.set _))⟩
    · simp [Instr.mapUpdate, run_underlying hT, MapKept.run_getObj_map hb, MapKept.run_checkKey hd (E.isKey k), MapKept.run_findKey hd hf, MapKept.run_setObj_map _ hb, Result.andThen]
    · have hany : m.any (fun p => decide (p.1 = k)) = false := by
        rw [List.any_eq_false]
        intro p hp
        simpa using hno p hp
      simp [updM, hany, hm.2]
  · have hj' : es[j]? = some e := by simpa using hj
    have hkey : ∀ e', es[j]? = some e' → ({ e' with key := E.enc k, val := v } : MapEntry).key = e'.key := fun e' he' => by rw [hj'] at he'; cases he'; exact hek.symm
    refine ⟨{ w with heap := w.heap.setIfInBounds b (.map (es.modify j fun e => { e with key := E.enc k, val := v }) clock) }, ?_, ⟨rfl, rfl, rfl⟩, hK _ (ownM_shut (es := es.modify j fun e => { e with key := E.enc k, val := v }) (clock := clock) ⟨stamped_modify hm.1 _ _ (fun _ _ => rfl) (fun e' _ he' => hkey e' he'), ?_⟩ (H2.set _))⟩
    · simp [Instr.mapUpdate, run_underlying hT, MapKept.run_getObj_map hb, MapKept.run_checkKey hd (E.isKey k), MapKept.run_findKey hd hf, hj', hek, MapKept.run_keyThatStays (E.isKey k), MapKept.run_setObj_map _ hb, Result.andThen]
    · have hany : m.any (fun p => decide (p.1 = k)) = true := by
        rw [List.any_eq_true]
        exact ⟨(k, u), List.mem_of_getElem? hmj, by simp⟩
      rw [Array.toList_modify, map_modify (fun e : MapEntry => (e.key, e.val)) _ (fun _ => (E.enc k, v)) (fun _ => rfl), hm.2]
      simp only [updM, hany, if_true]
      rw [← upd_modify m j k v u hm.nodup hmj, map_modify (fun p : κ × Value => (E.enc p.1, p.2)) _ (fun _ => (E.enc k, v)) (fun _ => rfl)]
theorem delete_sat {κ : Type} [DecidableEq κ] {P : Program} {E : Keys κ} {T T2 kt et ty : TypeId} {b : Nat} {m : List (κ × Value)} {F : List HProp} {h : Heap} {k : κ} {K : Value → Heap → Prop}
    (hT : P.underlying T = some (.map kt et)) (hd : P.underlying kt = some E.desc) (H : sat (ownM E b m :: F) h) (hK : ∀ h', sat (ownM E b (delM m k) :: F) h' → K (.tuple #[]) h') :
    RunH P (Builtin.delete_ #[T, T2] ty #[.map (some b), E.enc k]) h K := by
  intro w hw
  subst hw
  obtain ⟨es, clock, hm, H2⟩ := ownM_open H
  have hb := H2.get
  obtain ⟨f, hf, hl, hcase⟩ := hm.find k
  rcases hcase with ⟨rfl, hno, hnk⟩ | ⟨j, e, u, rfl, hj, hek, hmj⟩
  · refine ⟨.tuple #[], { w with heap := w.heap.setIfInBounds b (.map es clock) }, ?_, ⟨rfl, rfl, rfl⟩, hK _ (ownM_shut (es := es) (clock := clock) ⟨hm.1, ?_⟩ (H2.set _))⟩
    · simp [Builtin.delete_, run_underlying hT, MapKept.run_getObj_map hb, MapKept.run_checkKey hd (E.isKey k), MapKept.run_findKey hd hf, MapKept.run_setObj_map _ hb, Result.andThen]
    · have : delM m k = m := List.filter_eq_self.2 fun p hp => by simpa using hno p hp
      rw [this]
      exact hm.2
  · have hjl : j < es.size := by
      have := (List.getElem?_eq_some_iff.1 hj).1
      simpa using this
    refine ⟨.tuple #[], { w with heap := w.heap.setIfInBounds b (.map (es.eraseIdxIfInBounds j) clock) }, ?_, ⟨rfl, rfl, rfl⟩, hK _ (ownM_shut (es := es.eraseIdxIfInBounds j) (clock := clock) ⟨stamped_erase hm.1 _, ?_⟩ (H2.set _))⟩
    · simp [Builtin.delete_, run_underlying hT, MapKept.run_getObj_map hb, MapKept.run_checkKey hd (E.isKey k), MapKept.run_findKey hd hf, MapKept.run_setObj_map _ hb, Result.andThen]
    · rw [← del_erase m j k u hm.nodup hmj]
      have e1 : (es.eraseIdxIfInBounds j).toList = es.toList.eraseIdx j := by
        unfold Array.eraseIdxIfInBounds
        rw [dif_pos hjl, Array.toList_eraseIdx]
      rw [e1, map_erase, hm.2, map_erase]

end Go.Proofs.Yticjjdhaikbdaaa
