/- Tables in memory: what their calls do (seat T; things of type VT). -/
import Derived.Test.YtibdiikcigokjaaGreatSkTb1
import Derived.Test.YtibdiikcigokjaaGreatSkFs3S
namespace Go.Proofs.YtibdiikcigokjaaGreat.TS
open Go Go.RowKit Go.MapKept
open Tb (T get set del Up Has)
set_option linter.unusedVariables false
set_option linter.unusedSimpArgs false

abbrev VT := ByteArray
abbrev ve (x : VT) : Value := .string x
abbrev vz : VT := .empty
theorem DV (x : VT) (K : VT → Prop) : DS (ve x) K = K x := DS_string x K
theorem uMap : Tryz.prog.underlying 175 = some (.map 9 9) := by kernel_rfl
theorem uKey : Tryz.prog.underlying 9 = some strKeys.desc := by kernel_rfl
structure TabQ where
  mb : Nat
  m : List (ByteArray × Value)
  ka : Option Addr
  kl : Nat
  kc : Nat
  fr : Bool
  kx : List ByteArray
/-- What the pieces of a table are to one another. -/
structure TabOk (l : T VT) (q : TabQ) : Prop where
  has : Has ve q.m l
  cap : q.kl ≤ q.kc
  fresh : q.fr = true → q.kx = l.map (·.1) ∧ q.kl = l.length
abbrev tabC (q : TabQ) : Array Value := #[.map (some q.mb), .slice q.ka q.kl q.kc, .bool q.fr]
abbrev tabO (b : Nat) (q : TabQ) : HProp := pt b (.cells (tabC q) 177 (0, 0))
abbrev tabK (q : TabQ) : HProp := roS q.ka (q.kx.map Value.string)
def tabP (b : Nat) (l : T VT) : HProp := exi fun q : TabQ => Many [pur (TabOk l q), tabO b q, ownM strKeys q.mb q.m, tabK q]
section
variable {b : Nat} {l : T VT} {F : List HProp} {h : Heap}
theorem tab_open (H : sat (tabP b l :: F) h) : ∃ q, TabOk l q ∧ sat (tabO b q :: ownM strKeys q.mb q.m :: tabK q :: F) h := by
  obtain ⟨q, H1⟩ := sat_exi.1 H
  obtain ⟨h1, H2⟩ := sat_pur.1 H1.open
  exact ⟨q, h1, H2⟩
theorem tab_shut {q : TabQ} (hq : TabOk l q) (H : sat (tabO b q :: ownM strKeys q.mb q.m :: tabK q :: F) h) : sat (tabP b l :: F) h :=
  sat_exi.2 ⟨q, sat.shut (m := [pur (TabOk l q), tabO b q, ownM strKeys q.mb q.m, tabK q]) (sat_pur.2 ⟨hq, H⟩)⟩
/-- A look into the map. -/
theorem look {m : List (ByteArray × Value)} {mb : Nat} (hm : Has ve m l) (H : sat (ownM strKeys mb m :: F) h) (k : ByteArray) :
    ∃ es, mapEs h (some mb) es ∧ ∃ f, Instr.findNow .string (.string k) (es : Array MapEntry).toList 0 = some f ∧ Option.map (fun x => x.2) f = (get l k).map ve ∧ f.isSome = (get l k).isSome := by
  obtain ⟨es, clock, hmi, hes⟩ := mapEs_ownM H
  obtain ⟨f, hf, hl, _⟩ := hmi.find k
  rw [hm.lk] at hl
  refine ⟨es, hes, f, hf, hl, ?_⟩
  have := congrArg Option.isSome hl
  simpa using this
theorem got (o : Option VT) : (o.map ve).getD (ve vz) = ve (o.getD vz) := by cases o <;> rfl
abbrev getV (l : T VT) (k : ByteArray) : Value := .tuple #[ve ((get l k).getD vz), .bool (get l k).isSome]
theorem F55_spec {key : ByteArray} (H : sat (tabP b l :: F) h) : CallsH Tryz.prog 55 [ptrV b, .string key] h fun v h' => v = getV l key ∧ h' = h := by
  obtain ⟨q, hq, H1⟩ := tab_open H
  apply F55_ok
  unfold F55
  rw [show (some (⟨b, 0, none⟩ : Addr)).isNone = false from rfl, cond_false]
  refine LdC (v := .map (some q.mb)) H1 rfl ?_
  show DM (.map (some q.mb)) _
  rw [DM_map]
  obtain ⟨es, hes, f, hf, hv, hi⟩ := look hq.has (H1.mv 1) key
  refine ⟨es, hes, f, hf, ?_⟩
  rw [hv, got, DV, hi]
  exact ⟨rfl, by trivial⟩
theorem F39_spec {key : ByteArray} {x : VT} (H : sat (tabP b l :: F) h) : CallsH Tryz.prog 39 [ptrV b, .string key, ve x] h fun v h' => v = .tuple #[] ∧ sat (tabP b (set key x l) :: F) h' := by
  obtain ⟨q, hq, H1⟩ := tab_open H
  apply F39_ok
  unfold F39
  rw [show (some (⟨b, 0, none⟩ : Addr)).isNone = false from rfl, cond_false]
  refine LdC (v := .map (some q.mb)) H1 rfl ?_
  show DM (.map (some q.mb)) _
  rw [DM_map]
  obtain ⟨es, hes, f, hf, hv, hi⟩ := look hq.has (H1.mv 1) key
  refine ⟨es, hes, f, hf, ?_⟩
  rw [hv, got, DV, hi]
  cases hg : get l key with
  | none =>
    rw [show (!(Option.isSome (none : Option VT))) = true from rfl, cond_true]
    rw [NN'_some']
    rw [addr_add0]
    refine StCC (b := b) (i := 2) H1 (show (2 : Nat) < 3 by decide) rfl fun h2 H2 => ?_
    refine LdC (v := .map (some q.mb)) H2 rfl ?_
    show DM (.map (some q.mb)) _
    rw [DM_map]
    refine mapUpdate_sat (E := strKeys) (k := key) uMap uKey (H2.mv 1) fun h3 H3 => ⟨rfl, ?_⟩
    exact tab_shut (q := ⟨q.mb, updM q.m key (ve x), q.ka, q.kl, q.kc, false, q.kx⟩) ⟨hq.has.upd key x, hq.cap, fun e => by cases e⟩ (H3.mv 1)
  | some y =>
    rw [show (!(Option.isSome (some y))) = false from rfl, cond_false]
    refine LdC (v := .map (some q.mb)) H1 rfl ?_
    show DM (.map (some q.mb)) _
    rw [DM_map]
    refine mapUpdate_sat (E := strKeys) (k := key) uMap uKey (H1.mv 1) fun h3 H3 => ⟨rfl, ?_⟩
    refine tab_shut (q := ⟨q.mb, updM q.m key (ve x), q.ka, q.kl, q.kc, q.fr, q.kx⟩) ⟨hq.has.upd key x, hq.cap, fun e => ?_⟩ (H3.mv 1)
    have hk := Tb.set_keys (v := x) hq.has.2 (k := key) (by rw [hg]; rfl)
    obtain ⟨h1, h2⟩ := hq.fresh e
    exact ⟨by rw [hk]; exact h1, by rw [h2, ← List.length_map (f := fun x : ByteArray × VT => x.1), ← hk, List.length_map]⟩
theorem F110_spec {key : ByteArray} (H : sat (tabP b l :: F) h) : CallsH Tryz.prog 110 [ptrV b, .string key] h fun v h' => v = .bool (get l key).isSome ∧ sat (tabP b (del l key) :: F) h' := by
  apply F110_ok
  unfold F110
  refine (F55_spec H).mono ?_
  rintro v h1 ⟨rfl, rfl⟩
  refine ⟨_, _, rfl, ?_⟩
  cases hg : get l key with
  | none =>
    rw [show (!(Option.isSome (none : Option VT))) = true from rfl, cond_true, Tb.del_none hg]
    exact ⟨rfl, H⟩
  | some y =>
    rw [show (!(Option.isSome (some y))) = false from rfl, cond_false]
    obtain ⟨q, hq, H1⟩ := tab_open H
    refine LdC (v := .map (some q.mb)) H1 rfl ?_
    show DM (.map (some q.mb)) _
    rw [DM_map]
    refine delete_sat (E := strKeys) (k := key) uMap uKey (H1.mv 1) fun h3 H3 => ?_
    rw [NN'_some']
    rw [addr_add0]
    refine StCC (b := b) (i := 2) (H3.mv 1) (show (2 : Nat) < 3 by decide) rfl fun h4 H4 => ⟨rfl, ?_⟩
    exact tab_shut (q := ⟨q.mb, delM q.m key, q.ka, q.kl, q.kc, false, q.kx⟩) ⟨hq.has.del key, hq.cap, fun e => by cases e⟩ H4
theorem F167_spec (hl : l.length < 1099511627776) (H : sat (tabP b l :: F) h) :
    CallsH Tryz.prog 167 [ptrV b] h fun v h' => ∃ (a : Option Addr) (c : Nat), v = .slice a l.length c ∧ l.length ≤ c ∧ sat (roS a ((l.map (·.1)).map Value.string) :: tabP b l :: F) h' := by
  obtain ⟨q, hq, H1⟩ := tab_open H
  apply F167_ok
  unfold F167
  rw [show (some (⟨b, 0, none⟩ : Addr)).isNone = false from rfl, cond_false]
  refine LdC (v := .bool q.fr) H1 rfl ?_
  rw [DB_bool]
  cases hf : q.fr with
  | false =>
    rw [Bool.not_false, cond_true]
    refine LdC (v := .map (some q.mb)) H1 rfl ?_
    show DM (.map (some q.mb)) _
    rw [DM_map]
    refine (F214_spec (m0 := some q.mb) H1).mono ?_
    rintro v h2 ⟨cb, rfl, H2⟩
    refine ⟨_, rfl, ?_⟩
    have hml : q.m.length < 1099511627776 := by rw [hq.has.len]; exact hl
    -- cb, tabO, ownM, tabK, F
    refine (F62_spec (cb := cb) (mb := q.mb) (m := q.m) (H2.ordT 4 [0, 2, 1, 3]) hml).mono ?_
    rintro v h3 ⟨a, c, rfl, H3⟩
    rw [DSl_slice, hq.has.keys, hq.has.len] at *
    -- own, ownM, tabO, tabK, F
    obtain ⟨_, hlc, _⟩ := ownS_len H3
    rw [NN'_some']
    rw [addr_add0]
    refine StCC (b := b) (i := 1) (H3.mv 2) (show (1 : Nat) < 3 by decide) rfl fun h4 H4 => ?_
    rw [NN'_some', addr_add0]
    refine StCC (b := b) (i := 2) H4 (show (2 : Nat) < 3 by decide) rfl fun h5 H5 => ?_
    refine LdC (v := .slice a l.length c) H5 rfl ?_
    rw [DSl_slice]
    refine ⟨a, c, rfl, hlc, ?_⟩
    have H6 := (roS_of (H5.mv 1)).dup (roS_pers _ _)
    -- roS, roS, tabO, ownM, tabK, F
    have H7 : sat (tabO b ⟨q.mb, q.m, a, l.length, c, true, l.map (·.1)⟩ :: ownM strKeys q.mb q.m :: roS a ((l.map (·.1)).map Value.string) :: roS a ((l.map (·.1)).map Value.string) :: F) h5 := H6.ordT 5 [2, 3, 0, 1]
    exact ((tab_shut (q := ⟨q.mb, q.m, a, l.length, c, true, l.map (·.1)⟩) ⟨hq.has, hlc, fun _ => ⟨rfl, rfl⟩⟩ H7).mv 1)
  | true =>
    rw [Bool.not_true, cond_false]
    refine LdC (v := .slice q.ka q.kl q.kc) H1 rfl ?_
    rw [DSl_slice]
    obtain ⟨hx, hk⟩ := hq.fresh hf
    refine ⟨q.ka, q.kc, by rw [hk], by rw [← hk]; exact hq.cap, ?_⟩
    have H6 := (H1.mv 2).dup (roS_pers _ _)
    rw [← hx]
    exact ((tab_shut hq (H6.ordT 4 [2, 3, 0, 1])).mv 1)
theorem F109_spec (H : sat (tabP b l :: F) h) : CallsH Tryz.prog 109 [ptrV b] h fun v h' => ∃ b', v = ptrV b' ∧ sat (tabP b' l :: tabP b l :: F) h' := by
  obtain ⟨q, hq, H1⟩ := tab_open H
  apply F109_ok
  unfold F109
  rw [show (some (⟨b, 0, none⟩ : Addr)).isNone = false from rfl, cond_false]
  refine LdC (v := .map (some q.mb)) H1 rfl ?_
  show DM (.map (some q.mb)) _
  rw [DM_map]
  refine LdC (v := .slice q.ka q.kl q.kc) H1 rfl ?_
  rw [DSl_slice]
  refine LdC (v := .bool q.fr) H1 rfl ?_
  rw [DB_bool]
  refine (F158_spec (H1.mv 1)).mono ?_
  rintro v h2 ⟨mb2, rfl, H2⟩
  rw [DM_map]
  -- ownM2, ownM, tabO, tabK, F
  have HT := H2.mv 2
  refine ⟨rfl, rfl, rfl, LdC (v := .slice q.ka q.kl q.kc) HT rfl (by rw [DSl_slice]; rfl), rfl, rfl, rfl, LdC (v := .bool q.fr) HT rfl (by rw [DB_bool]; rfl), ?_⟩
  refine Al_sat H2 fun b2 h3 H3 => ⟨b2, rfl, ?_⟩
  -- b2, ownM2, ownM, tabO, tabK, F
  have H4 := (H3.mv 4).dup (roS_pers _ _)
  -- tabK, tabK, b2, ownM2, ownM, tabO, F
  have H5 := tab_shut (b := b) hq (H4.ordT 6 [5, 4, 0, 1, 2, 3])
  -- tab, tabK, b2, ownM2, F
  exact tab_shut (b := b2) (q := ⟨mb2, q.m, q.ka, q.kl, q.kc, q.fr, q.kx⟩) ⟨hq.has, hq.cap, hq.fresh⟩ (H5.ordT 4 [2, 3, 1, 0])
end

end Go.Proofs.YtibdiikcigokjaaGreat.TS
