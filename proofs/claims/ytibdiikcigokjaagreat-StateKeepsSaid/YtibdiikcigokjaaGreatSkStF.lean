/- Calls of a store in a file system that has a fuse (seat S). -/
import Derived.Test.YtibdiikcigokjaaGreatSkStY
namespace Go.Proofs.YtibdiikcigokjaaGreat
open Go Go.RowKit Go.MapKept
set_option linter.unusedVariables false
set_option linter.unusedSimpArgs false
open AF (nmI IdOk Live Has Upd Dirc ltB goG er Dur)
open Frame (packN packN_length packN_B8)
open TS (Ch chC Diffs appL VT tabZ tabP)

namespace AF
section
variable {A B : FS} {dir name : ByteArray} {T : Dirc} {P Q : Dirc → Prop} {x : List Nat}
/-- Put with a fuse: done, or the power is gone. -/
theorem put_off (L : Live (er A)) (H : Has (er A) dir T) (hT : ∀ p ∈ T, isTmp p.1 = false) (hr : right name = true) (hs : name.size ≤ 28) (hnt : isTmp name = false) (hl : T.length < 4096) (h8 : B8 x) (hx : x.length ≤ 16777208) (hu : A.used + (8 + x.length) ≤ A.room)
    (D : Dur A dir P) (hP : P (setN name (packN x) T)) :
    ((A.put dir name x).2 = 0 ∧ er (A.put dir name x).1 = ((er A).put dir name x).1 ∧ Dur (A.put dir name x).1 dir (fun U => U = setN name (packN x) T)) ∨ ((A.put dir name x).2 = 60 ∧ (A.put dir name x).1.off = true ∧ Dur (A.put dir name x).1 dir P) := by
  obtain ⟨al, De⟩ := put_along L H hT hr hs hnt hl h8 hx hu D hP
  have htm : isTmp (tmpN ++ name) = true := isTmp_tmp name
  have e : A.put dir name x = seqF (rawSteps dir name (packN x)) A := by
    unfold FS.put FS.raw
    rw [if_neg (by omega), if_neg (by omega), show A.list dir = (er A).list dir from rfl, list_ok L H]
    simp only []
    unfold rawAll
    rw [if_neg]
    intro h
    rw [List.any_eq_true] at h
    obtain ⟨s, hs, he⟩ := h
    obtain ⟨p, hp, rfl⟩ := List.mem_map.1 hs
    exact getN_none.1 (getN_T hT htm) p hp (by simpa using he)
  rw [e]
  have hf : ∀ g ∈ rawSteps dir name (packN x), Fz g := by
    intro g hg
    simp only [rawSteps, List.mem_cons, List.not_mem_nil, or_false] at hg
    rcases hg with rfl | rfl | rfl | rfl | rfl
    · exact fz_create _ _
    · exact fz_append _ _ _
    · exact fz_sync _ _
    · exact fz_rename _ _ _
    · exact fz_syncDir _
  rcases seq_fz hf al with ⟨h1, h2⟩ | ⟨h1, A', h2, h3⟩
  · refine .inl ⟨h1, h2, ?_⟩
    rw [← h2] at De
    exact De
  · refine .inr ⟨h1, ?_⟩
    rw [h2]
    exact ⟨rfl, h3⟩
theorem remove_offd (h : A.off = true) (dir n : ByteArray) : A.remove dir n = (A, 60) := by
  unfold FS.remove FS.entry FS.ready
  rw [h]
  rfl
theorem syncDir_offd (h : A.off = true) (dir : ByteArray) : A.syncDir dir = (A, 60) := by
  unfold FS.syncDir FS.ready
  rw [h]
  rfl
theorem goG_offd {α : Type} (h : A.off = true) (dir : ByteArray) (c : Nat) (p : Int → Bool) : ∀ (l : List Int) (T : List (Int × α)) (s : Bool), (goG dir c p l A T s).1 = A
  | [], T, s => rfl
  | n :: l, T, s => by
    unfold goG
    split
    · rw [remove_offd h]
      rfl
    · exact goG_offd h dir c p l T s
end
end AF
theorem drop_offd {A : AF.FS} (h : A.off = true) (S : Sto) (v : Int) : (S.drop A v).1 = A := by
  unfold Sto.drop
  dsimp only
  split
  · rfl
  have e1 := AF.goG_offd h S.dir 100 (fun n => decide (n ≤ nearL (S.N.map (·.1)) v)) (S.D.map (·.1)) S.D false
  generalize goG S.dir 100 (fun n => decide (n ≤ nearL (S.N.map (·.1)) v)) (S.D.map (·.1)) A S.D false = r at e1 ⊢
  split
  · exact e1
  rw [e1]
  have e2 := AF.goG_offd h S.dir 110 (fun n => decide (n < nearL (S.N.map (·.1)) v)) (S.N.map (·.1)) S.N r.2.2.1
  generalize goG S.dir 110 (fun n => decide (n < nearL (S.N.map (·.1)) v)) (S.N.map (·.1)) A S.N r.2.2.1 = q at e2 ⊢
  split
  · exact e2
  rw [e2]
  split
  · rw [AF.syncDir_offd h]
  · rfl
/-- Some files fewer, of versions that aren't wanted. -/
def PDel (S : Sto) (T : Dirc) (at_ : Int) (U : Dirc) : Prop := ∃ p q : Int → Bool, (∀ x, p x = true → x ≤ at_) ∧ (∀ x, q x = true → x < at_) ∧
  ∀ k x, (k, x) ∈ U ↔ (k, x) ∈ T ∧ (∀ v, (v, ()) ∈ S.D → p v = true → k ≠ nmI 100 v) ∧ (∀ v, (v, ()) ∈ S.N → q v = true → k ≠ nmI 110 v)
theorem PDel.same (S : Sto) (T : Dirc) (at_ : Int) : PDel S T at_ T := ⟨fun _ => false, fun _ => false, fun _ h => (by cases h), fun _ h => (by cases h), fun k x => ⟨fun h => ⟨h, fun _ _ h => (by cases h), fun _ _ h => (by cases h)⟩, fun h => h.1⟩⟩
theorem PDel.delD {S : Sto} {T U : Dirc} {at_ n : Int} (h : PDel S T at_ U) (hn : n ∈ S.D.map (·.1)) (ha : n ≤ at_) : PDel S T at_ (AF.delN (nmI 100 n) U) := by
  obtain ⟨p, q, h1, h2, h3⟩ := h
  refine ⟨fun x => p x || decide (x = n), q, fun x hx => ?_, h2, fun k x => ?_⟩
  · simp only [Bool.or_eq_true, decide_eq_true_eq] at hx
    rcases hx with hx | rfl
    · exact h1 x hx
    · exact ha
  · unfold AF.delN
    rw [List.mem_filter, h3]
    simp only [Bool.not_eq_true', decide_eq_false_iff_not, Bool.or_eq_true, decide_eq_true_eq]
    constructor
    · rintro ⟨⟨a, b, c⟩, d⟩
      refine ⟨a, fun v hv hp => ?_, c⟩
      rcases hp with hp | rfl
      · exact b v hv hp
      · exact d
    · rintro ⟨a, b, c⟩
      exact ⟨⟨a, fun v hv hp => b v hv (.inl hp), c⟩, b n (memU hn) (.inr rfl)⟩
theorem PDel.delN {S : Sto} {T U : Dirc} {at_ n : Int} (h : PDel S T at_ U) (hn : n ∈ S.N.map (·.1)) (ha : n < at_) : PDel S T at_ (AF.delN (nmI 110 n) U) := by
  obtain ⟨p, q, h1, h2, h3⟩ := h
  refine ⟨p, fun x => q x || decide (x = n), h1, fun x hx => ?_, fun k x => ?_⟩
  · simp only [Bool.or_eq_true, decide_eq_true_eq] at hx
    rcases hx with hx | rfl
    · exact h2 x hx
    · exact ha
  · unfold AF.delN
    rw [List.mem_filter, h3]
    simp only [Bool.not_eq_true', decide_eq_false_iff_not, Bool.or_eq_true, decide_eq_true_eq]
    constructor
    · rintro ⟨⟨a, b, c⟩, d⟩
      refine ⟨a, b, fun v hv hp => ?_⟩
      rcases hp with hp | rfl
      · exact c v hv hp
      · exact d
    · rintro ⟨a, b, c⟩
      exact ⟨⟨a, b, fun v hv hp => c v hv (.inl hp)⟩, c n (memU hn) (.inr rfl)⟩
section
variable {F : List HProp} {h : Heap} {b fsb : Nat} {S : Sto} {A : AF.FS} {T : Dirc} {c : Cnt} {G : Int → Tb.T VT}
/-- What a Drop with a fuse may leave. -/
theorem drop_dur (I : SF S T c) (L : Live (er A)) (Hs : Has (er A) S.dir T) (D : Dur A S.dir (fun U => U = T)) (v : Int) : Dur (S.drop A v).1 S.dir (PDel S T (nearL (S.N.map (·.1)) v)) := by
  have D0 : Dur A S.dir (PDel S T (nearL (S.N.map (·.1)) v)) := D.mono fun U hU => by rw [hU]; exact PDel.same _ _ _
  unfold Sto.drop
  dsimp only
  generalize nearL (S.N.map (·.1)) v = at_ at D0 ⊢
  split
  · exact D0
  have up0 := AF.has_up L Hs
  have nT := I.noTmp
  have okD : ∀ n ∈ S.D.map (·.1), IdOk n := fun n hn => by obtain ⟨p, hp, rfl⟩ := List.mem_map.1 hn; exact (I.okD p hp).id
  have okN : ∀ n ∈ S.N.map (·.1), IdOk n := fun n hn => by obtain ⟨p, hp, rfl⟩ := List.mem_map.1 hn; exact (I.okN p hp).id
  have gD : ∀ n ∈ S.D.map (·.1), decide (n ≤ at_) = true → ∃ y, AF.getN T (nmI 100 n) = some y := fun n hn _ => by
    obtain ⟨p, hp, rfl⟩ := List.mem_map.1 hn
    exact ⟨_, AF.mem_getN up0 ((I.files _ _).2 (.inl ⟨p, hp, rfl, rfl⟩))⟩
  have G1 := AF.goG_fz S.dir (c := 100) (by decide) (fun n => decide (n ≤ at_)) (S.D.map (·.1)) A S.D false T L Hs I.upD.nodup okD gD nT D0 (fun V n hn hp hV => hV.delD hn (by simpa using hp))
  obtain ⟨A2, g2, u2⟩ := AF.goG_ok S.dir (c := 100) (by decide) (fun n => decide (n ≤ at_)) (S.D.map (·.1)) (er A) S.D false T L Hs I.upD.nodup okD gD
  generalize goG S.dir 100 (fun n => decide (n ≤ at_)) (S.D.map (·.1)) A S.D false = r at G1 ⊢
  rcases G1 with ⟨c1, c2, c3, c4⟩ | ⟨c1, c2⟩
  rotate_left
  · rw [if_pos (show r.2.2.2 ≠ 0 by rw [c1]; decide)]
    exact c2
  rw [if_neg (show ¬ (r.2.2.2 ≠ 0) by rw [c1]; decide)]
  rw [g2] at c2
  simp only at c2
  rw [← c2] at u2
  have up2 := AF.has_up u2.live u2.here
  have gN : ∀ n ∈ S.N.map (·.1), decide (n < at_) = true → ∃ y, AF.getN (List.filter (fun q : ByteArray × List Nat => !((S.D.map (·.1)).any fun n => decide (n ≤ at_) && decide (q.1 = nmI 100 n))) T) (nmI 110 n) = some y := fun n hn _ => by
    obtain ⟨p, hp, rfl⟩ := List.mem_map.1 hn
    refine ⟨packN (pairsN (c 110 p.1)), AF.mem_getN up2 (List.mem_filter.2 ⟨(I.files _ _).2 (.inr ⟨p, hp, rfl, rfl⟩), ?_⟩)⟩
    simp only [Bool.not_eq_true', List.any_eq_false, Bool.and_eq_true, decide_eq_true_eq]
    rintro n hn2 ⟨_, e⟩
    obtain ⟨q, hq, rfl⟩ := List.mem_map.1 hn2
    have := (nm_inj2 110 100 (I.okN p hp) (I.okD q hq) e).1
    omega
  have nT2 : ∀ q ∈ List.filter (fun q : ByteArray × List Nat => !((S.D.map (·.1)).any fun n => decide (n ≤ at_) && decide (q.1 = nmI 100 n))) T, AF.isTmp q.1 = false := fun q hq => nT q (List.mem_filter.1 hq).1
  have G2 := AF.goG_fz S.dir (c := 110) (by decide) (fun n => decide (n < at_)) (S.N.map (·.1)) r.1 S.N r.2.2.1 _ u2.live u2.here I.upN.nodup okN gN nT2 c4 (fun V n hn hp hV => hV.delN hn (by simpa using hp))
  obtain ⟨A3, g3, u3⟩ := AF.goG_ok S.dir (c := 110) (by decide) (fun n => decide (n < at_)) (S.N.map (·.1)) (er r.1) S.N r.2.2.1 _ u2.live u2.here I.upN.nodup okN gN
  generalize goG S.dir 110 (fun n => decide (n < at_)) (S.N.map (·.1)) r.1 S.N r.2.2.1 = q at G2 ⊢
  rcases G2 with ⟨d1, d2, d3, d4⟩ | ⟨d1, d2⟩
  rotate_left
  · rw [if_pos (show q.2.2.2 ≠ 0 by rw [d1]; decide)]
    exact d2
  rw [if_neg (show ¬ (q.2.2.2 ≠ 0) by rw [d1]; decide)]
  rw [g3] at d2
  simp only at d2
  rw [← d2] at u3
  split
  · rcases AF.syncDir_fz u3.live u3.here d4 with ⟨s1, s2, s3⟩ | ⟨s1, s2⟩
    · refine s3.mono fun U hU => ?_
      obtain ⟨i, d, hd, hdn, hv, D'⟩ := Dur.both (A := er q.1) u3.live u3.here d4
      have h1 := D'.good _ (Nat.le_refl _)
      rw [AF.stat_last (u3.live.wf.each d (List.mem_of_getElem? hd)), hv] at h1
      rw [hU]
      exact h1
    · exact s2
  · exact d4
theorem PDel.sf (I : SF S T c) (C : CntOk S c G) {at_ : Int} {U : Dirc} (h : PDel S T at_ U) : ∃ D N, SF ⟨S.dir, D, N⟩ U c ∧ CntOk ⟨S.dir, D, N⟩ c G ∧ (∀ p ∈ D, p ∈ S.D) ∧ (∀ p ∈ S.D, at_ < p.1 → p ∈ D) ∧ (∀ p ∈ N, p ∈ S.N) ∧ (∀ p ∈ S.N, at_ ≤ p.1 → p ∈ N) := by
  obtain ⟨p, q, h1, h2, h3⟩ := h
  refine ⟨_, _, I.less p q h3, ⟨C.zero, C.up, C.small, fun x hx => C.delta x (List.mem_filter.1 hx).1, fun x hx => C.snap x (List.mem_filter.1 hx).1⟩, fun x hx => (List.mem_filter.1 hx).1, fun x hx hlt => List.mem_filter.2 ⟨hx, ?_⟩, fun x hx => (List.mem_filter.1 hx).1, fun x hx hle => List.mem_filter.2 ⟨hx, ?_⟩⟩
  · rw [Bool.not_eq_true', Bool.eq_false_iff]
    intro hp
    have := h1 _ hp
    omega
  · rw [Bool.not_eq_true', Bool.eq_false_iff]
    intro hp
    have := h2 _ hp
    omega
theorem CntOk.congr {S' : Sto} {G' : Int → Tb.T VT} (C : CntOk S c G) (m : Int) (hm : 0 ≤ m) (hD : ∀ p ∈ S'.D, p ∈ S.D ∧ p.1 ≤ m) (hN : ∀ p ∈ S'.N, p ∈ S.N ∧ p.1 ≤ m) (hG : ∀ k, k ≤ m → G' k = G k) (hu : ∀ k, Tb.Up (G' k)) (hs : ∀ k, (G' k).length ≤ 100000) : CntOk S' c G' := by
  refine ⟨by rw [hG 0 hm]; exact C.zero, hu, hs, fun p hp => ?_, fun p hp => ?_⟩
  · obtain ⟨h1, h2⟩ := hD p hp
    obtain ⟨d, e1, e2⟩ := C.delta p h1
    exact ⟨d, by rw [hG _ (by omega), hG _ h2]; exact e1, e2⟩
  · obtain ⟨h1, h2⟩ := hN p hp
    rw [hG _ h2]
    exact C.snap p h1
/-- A store's state in a file system that has a fuse. -/
structure KS (A : AF.FS) (S : Sto) (T : Dirc) (c : Cnt) : Prop where
  wf : A.WF
  live : Live (er A)
  has : Has (er A) S.dir T
  sf : SF S T c
  dur : Dur A S.dir (fun U => U = T)
/-- A file laid with a fuse. -/
theorem lay_fz {v : Int} {k : Nat} {ps : Prs} (K : KS A S T c) (hk : k = 100 ∨ k = 110) (hv : VOk v) (hf : Fit ps) (hfew : S.D.length + S.N.length < 4000) {w : Nat} (hw : (pairsN ps).length ≤ w) (hu : A.used + (8 + w) ≤ A.room) :
    ∃ T', SF (laidS S k v) T' (updC c k v ps) ∧
    (((S.lay A k v ps).2.2 = 0 ∧ (S.lay A k v ps).2.1 = laidS S k v ∧ Upd 0 (8 + w) 5 (er A) (er (S.lay A k v ps).1) S.dir T' ∧ ((S.lay A k v ps).1.WF → KS (S.lay A k v ps).1 (laidS S k v) T' (updC c k v ps))) ∨
     ((S.lay A k v ps).2.2 = 60 ∧ (S.lay A k v ps).2.1 = S ∧ (S.lay A k v ps).1.off = true ∧ Dur (S.lay A k v ps).1 S.dir (fun U => U = T ∨ U = T'))) := by
  obtain ⟨e, u, I'⟩ := put_room (w := w) K.sf K.live K.has hk hv hf hfew hw (show (er A).used + _ ≤ _ from hu)
  have hr : AF.right (nmI k v) = true := AF.Fnm.nm_right (by omega) (by omega) _
  have hz : (nmI k v).size ≤ 28 := by rw [size_nmI]; decide
  have hl : T.length < 4096 := by have := K.sf.few K.live K.has; omega
  refine ⟨_, I', ?_⟩
  rcases AF.put_off (name := nmI k v) (x := pairsN ps) (P := fun U => U = T ∨ U = AF.setN (nmI k v) (packN (pairsN ps)) T) K.live K.has K.sf.noTmp hr hz (AF.Fnm.nm_tmp (by omega) _) hl (pairsN_B8 ps) (by have := hf.1; omega) (by omega) (K.dur.mono fun _ h => .inl h) (.inr rfl) with ⟨h1, h2, h3⟩ | ⟨h1, h2, h3⟩
  · have eL : S.lay A k v ps = ((A.put S.dir (nmI k v) (pairsN ps)).1, laidS S k v, 0) := by unfold Sto.lay; rw [h1, if_pos rfl]
    rw [eL]
    have u' := u
    rw [← h2] at u'
    refine .inl ⟨rfl, rfl, u', fun W => ⟨W, u'.live, by rw [laidS_dir]; exact u'.here, I', by rw [laidS_dir]; exact h3⟩⟩
  · have eL : S.lay A k v ps = ((A.put S.dir (nmI k v) (pairsN ps)).1, S, (A.put S.dir (nmI k v) (pairsN ps)).2) := by unfold Sto.lay; rw [if_neg (by rw [h1]; decide)]
    rw [eL]
    exact .inr ⟨h1, rfl, h2, h3⟩
theorem commit_fz {v : Int} {pa pb : Option Addr} {w : Nat} (K : KS A S T c) (C : CntOk { S with D := S.D.filter fun p => !decide (p.1 = v) } c G) (hs : A.steps + 10 < 1099511627776) (hd : S.dir.size < 4611686018427387904) (hfew : S.D.length + S.N.length < 4000) (hv : VOk v)
    (hf : ∀ d, Diffs (G (v - 1)) (G v) d → Fit (chPairs d) ∧ (pairsN (chPairs d)).length ≤ w) (hu : A.used + (8 + w) ≤ A.room) (H : sat (stoM b fsb S :: fsP fsb A :: tabZ pa (G (v - 1)) :: tabZ pb (G v) :: F) h) :
    CallsH Tryz.prog 10 [ptrV b, .int .i64 v, .pointer pa, .pointer pb] h fun r h' => ∃ A' T' c', SF (laidS S 100 v) T' c' ∧ CntOk (laidS S 100 v) c' G ∧ A'.WF ∧ A'.steps ≤ A.steps + 6 ∧
      ((r = .int .i64 0 ∧ KS A' (laidS S 100 v) T' c' ∧ Upd 0 (8 + w) 5 (er A) (er A') S.dir T' ∧ sat (stoM b fsb (laidS S 100 v) :: fsP fsb A' :: tabZ pa (G (v - 1)) :: tabZ pb (G v) :: F) h') ∨
       (r = .int .i64 60 ∧ A'.off = true ∧ Dur A' S.dir (fun U => U = T ∨ U = T') ∧ sat (stoM b fsb S :: fsP fsb A' :: tabZ pa (G (v - 1)) :: tabZ pb (G v) :: F) h')) := by
  have s1 := C.small (v - 1)
  have s2 := C.small v
  refine (F10_spec (was := G (v - 1)) (now := G v) hv K.wf hs hd (by omega) (by omega) (fun d hD => (hf d hD).1) H).mono ?_
  rintro r h' ⟨d, hD, rfl, W', hst, H'⟩
  obtain ⟨f1, f2⟩ := hf d hD
  obtain ⟨T', I', R⟩ := lay_fz (k := 100) K (.inl rfl) hv f1 hfew f2 hu
  have eS : laidS S 100 v = { S with D := setT v () S.D } := if_pos rfl
  have C' : CntOk (laidS S 100 v) (updC c 100 v (chPairs d)) G := by
    rw [eS]
    refine ⟨C.zero, C.up, C.small, fun p hp => ?_, fun p hp => ?_⟩
    · rcases (mem_setT K.sf.upD).1 hp with rfl | ⟨hne, hp⟩
      · exact ⟨d, hD, by unfold updC; rw [if_pos ⟨rfl, rfl⟩]⟩
      · obtain ⟨d', h1, h2⟩ := C.delta p (List.mem_filter.2 ⟨hp, by simpa using hne⟩)
        exact ⟨d', h1, by unfold updC; rw [if_neg (fun h => hne h.2)]; exact h2⟩
    · unfold updC
      rw [if_neg (fun h => by cases h.1)]
      exact C.snap p hp
  refine ⟨_, T', _, I', C', W', hst, ?_⟩
  rcases R with ⟨r1, r2, r3, r4⟩ | ⟨r1, r2, r3, r4⟩
  · rw [r2] at H'
    rw [r1]
    exact .inl ⟨rfl, r4 W', r3, H'⟩
  · rw [r2] at H'
    rw [r1]
    exact .inr ⟨rfl, r3, r4, H'⟩
theorem snap_fz {v : Int} {w : Nat} (K : KS A S T c) (C : CntOk S c G) (hs : A.steps + 10 < 1099511627776) (hd : S.dir.size < 4611686018427387904) (hfew : S.D.length + S.N.length < 4000) (hv : VOk v)
    (hf : Fit (G v) ∧ (pairsN (G v)).length ≤ w) (hu : A.used + (8 + w) ≤ A.room) (hno : (v, ()) ∉ S.N) (hall : ∀ k, 0 < k → k ≤ v → (k, ()) ∈ S.D) (H : sat (stoM b fsb S :: fsP fsb A :: F) h) :
    CallsH Tryz.prog 11 [ptrV b, .int .i64 v] h fun r h' => ∃ A' T' c', SF (laidS S 110 v) T' c' ∧ CntOk (laidS S 110 v) c' G ∧ A'.WF ∧ A'.steps ≤ A.steps + 6 ∧
      ((r = .int .i64 0 ∧ KS A' (laidS S 110 v) T' c' ∧ Upd 0 (8 + w) 5 (er A) (er A') S.dir T' ∧ sat (stoM b fsb (laidS S 110 v) :: fsP fsb A' :: F) h') ∨
       (r = .int .i64 60 ∧ A'.off = true ∧ Dur A' S.dir (fun U => U = T ∨ U = T') ∧ sat (stoM b fsb S :: fsP fsb A' :: F) h')) := by
  refine (F11_fz (v := v) K.sf K.wf K.live K.has C hs hd hv hf.1 H).mono ?_
  have hn0 : ∀ x, nearL (S.N.map (·.1)) v < x → 0 < x := fun x hx => by
    have := (nearL_facts (S.N.map (·.1)) v (by have := hv.1; omega)).1
    omega
  rintro r h' (⟨hm, _⟩ | ⟨_, _, rfl, W', hst, H'⟩ | ⟨_, hn, _⟩)
  · exact absurd hm hno
  · obtain ⟨T', I', R⟩ := lay_fz (k := 110) K (.inr rfl) hv hf.1 hfew hf.2 hu
    have eS : laidS S 110 v = { S with N := setT v () S.N } := if_neg (by decide)
    have C' : CntOk (laidS S 110 v) (updC c 110 v (G v)) G := by
      rw [eS]
      refine ⟨C.zero, C.up, C.small, fun p hp => ?_, fun p hp => ?_⟩
      · obtain ⟨d', h1, h2⟩ := C.delta p hp
        exact ⟨d', h1, by unfold updC; rw [if_neg (fun h => by cases h.1)]; exact h2⟩
      · rcases (mem_setT K.sf.upN).1 hp with rfl | ⟨hne, hp⟩
        · unfold updC; rw [if_pos ⟨rfl, rfl⟩]
        · unfold updC; rw [if_neg (fun h => hne h.2)]; exact C.snap p hp
    refine ⟨_, T', _, I', C', W', hst, ?_⟩
    rcases R with ⟨r1, r2, r3, r4⟩ | ⟨r1, r2, r3, r4⟩
    · rw [r2] at H'
      rw [r1]
      exact .inl ⟨rfl, r4 W', r3, H'⟩
    · rw [r2] at H'
      rw [r1]
      exact .inr ⟨rfl, r3, r4, H'⟩
  · exact absurd (fun k h1 h2 => hall k (hn0 k h1) h2) hn
end
end Go.Proofs.YtibdiikcigokjaaGreat
