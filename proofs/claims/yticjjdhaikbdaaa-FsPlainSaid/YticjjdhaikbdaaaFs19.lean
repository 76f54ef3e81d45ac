/- Crash. -/
import Derived.Test.YticjjdhaikbdaaaFs18
namespace Go.Proofs.Yticjjdhaikbdaaa
open Go Go.RowKit Go.MapKept
set_option linter.unusedVariables false
set_option linter.unusedSimpArgs false

def iv (n : Int) : Value := .int .i64 n
/-- What is left to be drawn, in a slice that stays. -/
structure Pks (F : List HProp) (ps : List Int) (a : Option Addr) (l c : Nat) : Prop where
  len : ps.length = l
  cap : l ≤ c
  read : ∀ h', sat F h' → RdC h' a (ps.map iv)
abbrev cellS (b0 : Nat) (a : Option Addr) (l c : Nat) : HProp := pt b0 (.cells #[.slice a l c] 22 (0, 0))
section
variable {b : Nat} {A : AF.FS} {q : FsQ} {F G : List HProp} {h : Heap}
theorem F63_spec {b0 n : Nat} {ps : List Int} {a : Option Addr} {l c : Nat} (hn : n < 4611686018427387904) (hp : Pks F ps a l c) (hF : sat F h) (H : sat (cellS b0 a l c :: G) h) :
    CallsH Try.prog 63 [.int .i64 (n : Int), ptrV b0] h fun v h' => v = .int .i64 ((AF.pick ps n).1 : Int) ∧ ∃ a2 l2 c2, Pks F (AF.pick ps n).2 a2 l2 c2 ∧ sat (cellS b0 a2 l2 c2 :: G) h' := by
  apply F63_ok
  unfold F63
  refine LdV (v := .slice a l c) H.get rfl ?_
  rw [DSl_slice]
  have hl := hp.len
  cases ps with
  | nil =>
    have : l = 0 := hl.symm
    subst this
    rw [show (((0 : Nat) : Int) == 0) = true from rfl, cond_true]
    exact ⟨rfl, a, 0, c, hp, H⟩
  | cons p ps =>
    rw [List.length_cons] at hl
    rw [err_beq (show l ≠ 0 by omega), cond_false]
    refine LdV (v := .slice a l c) H.get rfl ?_
    rw [DSl_slice]
    have hr := hp.read h hF
    refine IdxA_nat (i := 0) (v := iv p) hr (by rw [List.length_map, List.length_cons]; exact hl) rfl fun ba hba hc => ⟨_, hc, ?_⟩
    show DI .i64 (.int .i64 p) _
    rw [DI_int]
    refine LdV (v := .slice a l c) H.get rfl ?_
    rw [DSl_slice]
    have hcap := hp.cap
    refine SlV_nat (lo := 1) (hi := l) (mx := c) (by omega) hcap (Nat.le_refl _) ?_
    rw [addr_add0]
    refine stV H fun h1 H1 => ?_
    have w1 : IntKind.wrap .i64 ((n : Int) + 1) = ((n + 1 : Nat) : Int) := wrap64_succ (by omega)
    have w2 : IntKind.wrap .u64 ((n + 1 : Nat) : Int) = ((n + 1 : Nat) : Int) := IntWalk.u64_in _ (by omega)
    rw [w1, w2]
    refine ⟨by omega, ?_, subA a 1 c 1, l - 1, c - 1, ⟨by show ps.length = l - 1; omega, by omega, fun h' hh => ?_⟩, H1⟩
    · have hu : ∃ m : Nat, IntKind.wrap .u64 p = (m : Int) := by
        rw [IntKind.wrap_u64]
        exact ⟨(p % 18446744073709551616).toNat, by omega⟩
      obtain ⟨m, hm⟩ := hu
      have hlt : m % (n + 1) < n + 1 := Nat.mod_lt m (Nat.succ_pos n)
      rw [hm, tmod_nat, wrap64_nat (by omega)]
      show Value.int .i64 _ = .int .i64 (((IntKind.wrap .u64 p).toNat % (n + 1) : Nat) : Int)
      rw [hm, Int.toNat_natCast]
    · have := (hp.read h' hh).sub 1 (l - 1) c (by omega)
      have e : ((List.map iv (p :: ps)).drop 1).take (l - 1) = ps.map iv := by
        rw [List.map_cons, List.drop_one, List.tail_cons, List.take_of_length_le (by rw [List.length_map]; omega)]
      rw [e] at this
      exact this
theorem lk_at (W : A.WF) (hq : fsQ A q) {i : Nat} {d : AF.Dir} {fb : Nat} (hd : A.dirs[i]? = some d) (hf : q.fbs[i]? = some fb) : lkM q.m d.name = some (ptrV fb) :=
  mem_lkM (dirs_nodup W hq) ((dirs_mem hq).2 ⟨i, d, fb, hd, hf, rfl, rfl⟩)
theorem findM {mb fb : Nat} {m : List (ByteArray × Value)} {k : ByteArray} {K : Option Addr → Prop} (H : sat (ownM strKeys mb m :: F) h) (hk : lkM m k = some (ptrV fb)) (hK : K (some ⟨fb, 0, none⟩)) :
    ∃ es : Array MapEntry, mapEs h (some mb) es ∧ ∃ f, Instr.findNow .string (.string k) es.toList 0 = some f ∧ DP ((Option.map (fun x => x.2) f).getD (.pointer none)) K := by
  obtain ⟨es, clock, hm, hes⟩ := mapEs_ownM H
  obtain ⟨f, hf, hl, _⟩ := hm.find k
  refine ⟨es, hes, f, hf, ?_⟩
  rw [hl, hk]
  exact ⟨_, rfl, hK⟩
theorem subA_zero (a : Option Addr) (mx sz : Nat) : subA a 0 mx sz = a := by
  unfold subA
  split
  · rfl
  · cases a with
    | none => rfl
    | some a => simp
theorem ownS_cut {e l c k : Nat} {a : Option Addr} {xs : List Value} (hk : k ≤ l) (H : sat (ownS e 1 a l c xs :: F) h) : sat (ownS e 1 a k c (xs.take k) :: F) h := by
  obtain ⟨hl, ⟨rfl, rfl, rfl, rfl, H2⟩ | ⟨b', cells, fr, rfl, hlc, hcm, hcs, hfr, ht, H2⟩⟩ := ownS_cases H
  · have : k = 0 := by omega
    subst this
    exact ownS_nil e 1 H2
  · refine ownS_mk H2 hfr (by omega) hcm hcs ?_
    rw [← ht, List.take_take, Nat.min_eq_left (by omega), Nat.mul_one]
theorem crashDirs_append : ∀ (ds es : List AF.Dir) (l : List Int), AF.crashDirs (ds ++ es) l = ((AF.crashDirs ds l).1 ++ (AF.crashDirs es (AF.crashDirs ds l).2).1, (AF.crashDirs es (AF.crashDirs ds l).2).2)
  | [], es, l => rfl
  | d :: ds, es, l => by
    rw [List.cons_append]
    simp only [AF.crashDirs]
    rw [crashDirs_append ds es]
    rfl
theorem crashFiles_append : ∀ (xs ys : List Nat) (fs : List AF.File) (l : List Int), AF.crashFiles (xs ++ ys) fs l = AF.crashFiles ys (AF.crashFiles xs fs l).1 (AF.crashFiles xs fs l).2
  | [], ys, fs, l => rfl
  | x :: xs, ys, fs, l => by
    rw [List.cons_append]
    simp only [AF.crashFiles]
    rw [crashFiles_append xs ys]
theorem crashDirs_names : ∀ (ds : List AF.Dir) (l : List Int), (AF.crashDirs ds l).1.map (·.name) = ds.map (·.name)
  | [], l => rfl
  | d :: ds, l => by simp only [AF.crashDirs, List.map_cons]; rw [crashDirs_names ds]
def cutDir (d : AF.Dir) (k : Nat) : AF.Dir := ⟨d.name, AF.play d.base (d.pend.take k), AF.play d.base (d.pend.take k), []⟩
/-- The directories after so many are done. -/
def dirsAt (A : AF.FS) (ps : List Int) (i : Nat) : List AF.Dir := (AF.crashDirs (A.dirs.take i) ps).1 ++ A.dirs.drop i
def picksAt (A : AF.FS) (ps : List Int) (i : Nat) : List Int := (AF.crashDirs (A.dirs.take i) ps).2
theorem dirsAt_get {ps : List Int} {i : Nat} {d : AF.Dir} (hd : A.dirs[i]? = some d) : (dirsAt A ps i)[i]? = some d := by
  have hi := (List.getElem?_eq_some_iff.1 hd).1
  unfold dirsAt
  rw [List.getElem?_append_right (by rw [AF.crashDirs_length, List.length_take]; omega), AF.crashDirs_length, List.length_take, List.getElem?_drop, ← hd]
  congr 1
  omega
theorem dirsAt_next {ps : List Int} {i : Nat} {d : AF.Dir} (hd : A.dirs[i]? = some d) :
    dirsAt A ps (i + 1) = (dirsAt A ps i).set i (cutDir d (AF.pick (picksAt A ps i) d.pend.length).1) ∧ picksAt A ps (i + 1) = (AF.pick (picksAt A ps i) d.pend.length).2 := by
  have hi := (List.getElem?_eq_some_iff.1 hd).1
  have ht : A.dirs.take (i + 1) = A.dirs.take i ++ [d] := by rw [List.take_add_one, hd]; rfl
  unfold dirsAt picksAt
  rw [ht, crashDirs_append]
  refine ⟨?_, rfl⟩
  have hdr : A.dirs.drop i = d :: A.dirs.drop (i + 1) := by
    rw [List.drop_eq_getElem_cons hi]
    congr 1
    rw [List.getElem?_eq_getElem hi] at hd
    exact Option.some.inj hd
  rw [hdr, List.set_append_right _ _ (by rw [AF.crashDirs_length, List.length_take]; omega), AF.crashDirs_length, List.length_take, show i - min i A.dirs.length = 0 by omega, List.set_cons_zero, List.append_assoc]
  rfl
end

end Go.Proofs.Yticjjdhaikbdaaa
