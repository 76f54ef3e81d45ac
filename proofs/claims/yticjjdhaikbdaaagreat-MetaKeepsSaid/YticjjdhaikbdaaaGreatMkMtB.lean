/- An entry of a map that is made and set: m[k], .. = v, .. . -/
import Derived.Test.YticjjdhaikbdaaaGreatMkMtA
namespace Go.Proofs.YticjjdhaikbdaaaGreat
open Go Go.RowKit Go.MapKept
set_option linter.unusedVariables false
set_option linter.unusedSimpArgs false

/-- An entry that was made, and is to be set. -/
def Madeat {κ : Type} (E : Keys κ) (es : Array MapEntry) (k : κ) (n : Nat) : Prop := ∃ (j : Nat) (e : MapEntry), es.toList[j]? = some e ∧ e.key = E.enc k ∧ e.born = n
theorem updM_updM {κ : Type} [DecidableEq κ] (m : List (κ × Value)) (k : κ) (v u : Value) : updM (updM m k v) k u = updM m k u := by
  unfold updM
  by_cases ha : m.any (fun p => decide (p.1 = k)) = true
  · have h2 : ((m.map fun p => if p.1 = k then (k, v) else p).any fun p => decide (p.1 = k)) = true := by
      rw [List.any_eq_true] at ha ⊢
      obtain ⟨p, hp, e⟩ := ha
      exact ⟨(k, v), List.mem_map.2 ⟨p, hp, if_pos (by simpa using e)⟩, by simp⟩
    simp only [ha, if_true, h2]
    rw [List.map_map]
    apply List.map_congr_left
    intro p _
    by_cases e : p.1 = k <;> simp [e]
  · have hf : m.any (fun p => decide (p.1 = k)) = false := by
      cases h : m.any (fun p => decide (p.1 = k)) with
      | true => exact absurd h ha
      | false => rfl
    have h2 : ((m ++ [(k, v)]).any fun p => decide (p.1 = k)) = true := by simp
    simp only [hf, Bool.false_eq_true, if_false, h2, if_true]
    rw [List.map_append]
    congr 1
    · conv => rhs; rw [← List.map_id m]
      apply List.map_congr_left
      intro p hp
      have : p.1 ≠ k := fun e => by
        rw [List.any_eq_false] at hf
        exact hf p hp (by simpa using e)
      simp [this]
    · simp
theorem mapEntry_sat {κ : Type} [DecidableEq κ] {P : Program} {E : Keys κ} {T kt et : TypeId} {b : Nat} {m : List (κ × Value)} {F : List HProp} {h : Heap} {k : κ} {z : Value} {K : Value → Heap → Prop}
    (hT : P.underlying T = some (.map kt et)) (hd : P.underlying kt = some E.desc) (hz : ∀ w, (zeroValue et).run P w = .ok z w) (H : sat (ownM E b m :: F) h)
    (hK : ∀ v (n : Nat) es clock h', MapIs E es clock (updM m k v) → Madeat E es k n → sat (pt b (.map es clock) :: F) h' → K (.tuple #[v, .int .i64 (n : Int)]) h') :
    RunH P (Instr.mapEntry T (.map (some b)) (E.enc k)) h K := by
  intro w hw
  subst hw
  obtain ⟨es, clock, hm, H2⟩ := ownM_open H
  have hb := H2.get
  obtain ⟨f, hf, hl, hcase⟩ := hm.find k
  rcases hcase with ⟨rfl, hno, hnk⟩ | ⟨j, e, u, rfl, hj, hek, hmj⟩
  · refine ⟨.tuple #[z, .int .i64 (clock : Int)], { w with heap := w.heap.setIfInBounds b (.map (es.push { key := E.enc k, val := z, born := clock }) (clock + 1)) }, ?_, ⟨rfl, rfl, rfl⟩, hK z clock (es.push { key := E.enc k, val := z, born := clock }) (clock + 1) _ ⟨stamped_push hm.1 hnk, ?_⟩ ⟨es.size, { key := E.enc k, val := z, born := clock }, by simp, rfl, rfl⟩ (H2.set _)⟩
    · simp [Instr.mapEntry, run_underlying hT, MapKept.run_getObj_map hb, MapKept.run_checkKey hd (E.isKey k), MapKept.run_findKey hd hf, MapKept.run_setObj_map _ hb, Result.andThen, hz, goInt]
    · have hany : m.any (fun p => decide (p.1 = k)) = false := by
        rw [List.any_eq_false]
        intro p hp
        simpa using hno p hp
      simp [updM, hany, hm.2]
  · have hj' : es[j]? = some e := by simpa using hj
    have hkey : ∀ e', es[j]? = some e' → ({ e' with key := E.enc k } : MapEntry).key = e'.key := fun e' he' => by rw [hj'] at he'; cases he'; exact hek.symm
    have hev : e.val = u := by
      obtain ⟨p, hp, _, hv⟩ := hm.at hj
      rw [hmj] at hp
      cases hp
      exact hv
    refine ⟨.tuple #[u, .int .i64 (e.born : Int)], { w with heap := w.heap.setIfInBounds b (.map (es.modify j fun e => { e with key := E.enc k }) clock) }, ?_, ⟨rfl, rfl, rfl⟩,
      hK u e.born (es.modify j fun e => { e with key := E.enc k }) clock _ ⟨stamped_modify hm.1 _ _ (fun _ _ => rfl) (fun e' _ he' => hkey e' he'), ?_⟩ ⟨j, { e with key := E.enc k }, ?_, rfl, rfl⟩ (H2.set _)⟩
    · simp [Instr.mapEntry, run_underlying hT, MapKept.run_getObj_map hb, MapKept.run_checkKey hd (E.isKey k), MapKept.run_findKey hd hf, hj', hek, MapKept.run_keyThatStays (E.isKey k), MapKept.run_setObj_map _ hb, Result.andThen, goInt]
    · have hany : m.any (fun p => decide (p.1 = k)) = true := by
        rw [List.any_eq_true]
        exact ⟨(k, u), List.mem_of_getElem? hmj, by simp⟩
      have e0 : es.modify j (fun e => { e with key := E.enc k }) = es := by
        apply Array.ext_getElem?
        intro i
        rw [Array.getElem?_modify]
        by_cases h : j = i
        · subst h
          rw [if_pos rfl, hj']
          simp [← hek]
        · rw [if_neg h]
      rw [e0, hm.2]
      congr 1
      simp only [updM, hany, if_true]
      rw [← upd_modify m j k u u hm.nodup hmj]
      apply List.ext_getElem?
      intro i
      rw [List.getElem?_modify]
      by_cases h : j = i
      · subst h
        simp [hmj]
      · simp [h]
    · rw [Array.toList_modify, List.getElem?_modify, hj]
      simp
theorem entryStore_sat {κ : Type} [DecidableEq κ] {P : Program} {E : Keys κ} {T : TypeId} {b : Nat} {m : List (κ × Value)} {F : List HProp} {h : Heap} {k : κ} {u : Value} {n : Nat} {es : Array MapEntry} {clock : Nat} {K : Heap → Prop}
    (hm : MapIs E es clock m) (hat : Madeat E es k n) (H : sat (pt b (.map es clock) :: F) h) (hK : ∀ h', sat (ownM E b (updM m k u) :: F) h' → K h') : RunU P (Instr.entryStore T (.map (some b)) (.int .i64 (n : Int)) u) h K := by
  intro w hw
  subst hw
  obtain ⟨j, e, hj, hek, hen⟩ := hat
  have hj' : es[j]? = some e := by simpa using hj
  obtain ⟨p, hp, hpk, hpv⟩ := hm.at hj
  have hpe : p.1 = k := E.inj _ _ (by rw [← hpk, hek])
  have hmj : m[j]? = some (k, p.2) := by rw [hp, ← hpe]
  have hfi : es.findIdx? (fun e => (e.born : Int) == (n : Int)) = some j := by
    rw [Array.findIdx?_eq_some_iff_getElem]
    obtain ⟨hlt, he⟩ := Array.getElem?_eq_some_iff.1 hj'
    refine ⟨hlt, by rw [he, hen]; simp, fun i hi => ?_⟩
    have hn := hm.1.2.1
    intro hc
    have h1 : (es.toList.map (·.born))[i]? = some n := by
      rw [List.getElem?_map, Array.getElem?_toList, Array.getElem?_eq_getElem (by omega)]
      have : (es[i].born : Int) = n := by simpa using hc
      simp only [Option.map_some]
      congr 1
      omega
    have h2 : (es.toList.map (·.born))[j]? = some n := by rw [List.getElem?_map, hj, ← hen]; rfl
    obtain ⟨a1, b1⟩ := List.getElem?_eq_some_iff.1 h1
    obtain ⟨a2, b2⟩ := List.getElem?_eq_some_iff.1 h2
    have := List.pairwise_iff_getElem.1 hn i j a1 a2 hi
    rw [b1, b2] at this
    exact this rfl
  refine ⟨{ w with heap := w.heap.setIfInBounds b (.map (es.modify j fun e => { e with val := u }) clock) }, ?_, ⟨rfl, rfl, rfl⟩, hK _ (ownM_shut (es := es.modify j fun e => { e with val := u }) (clock := clock) ⟨stamped_modify hm.1 _ _ (fun _ _ => rfl) (fun e' _ he' => rfl), ?_⟩ (H.set _))⟩
  · simp [Instr.entryStore, MapKept.run_getObj_map H.get, asInt, asIntOf, hfi, MapKept.run_setObj_map _ H.get, Result.andThen]
  · have hany : m.any (fun p => decide (p.1 = k)) = true := by
      rw [List.any_eq_true]
      exact ⟨(k, p.2), List.mem_of_getElem? hmj, by simp⟩
    simp only [updM, hany, if_true]
    rw [← upd_modify m j k u p.2 hm.nodup hmj]
    rw [Array.toList_modify]
    apply List.ext_getElem?
    intro i
    have h0 : (es.toList.map fun e : MapEntry => (e.key, e.val))[i]? = (m.map fun p => (E.enc p.1, p.2))[i]? := by rw [hm.2]
    rw [List.getElem?_map, List.getElem?_map] at h0
    rw [List.getElem?_map, List.getElem?_map, List.getElem?_modify, List.getElem?_modify]
    by_cases h : j = i
    · subst h
      simp [hj, hmj, hek]
    · simp only [h, if_false, Option.map_id']
      simpa using h0

end Go.Proofs.YticjjdhaikbdaaaGreat
