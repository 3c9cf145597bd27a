/- The state of CachePlays' loop: the caches and the reference's two levels side by side; New where it answers an error. -/
import Derived.Test.YtkpeeemnholmnabCacheH
namespace Go.Proofs.Ytkpeeemnholmnab
open Go.RowKit
set_option linter.unusedVariables false
set_option linter.unusedSimpArgs false

structure Play (B0 : Nat) (w : World) (q p1 sb1 p2 sb2 pa pb : Nat) (c1 c2 : Conf) (sv1 sv2 : Nat → Value) (x1 x2 : Nat → List CLine) (m : Nat) (va vb : Value) (na nb : Nat) (ua ub : List UL) : Prop where
  c : CacheSt w q p1 sb1 p2 sb2 c1 c2 sv1 sv2 x1 x2 m
  a : LevR w pa va c1 na ua
  b : LevR w pb vb c2 nb ub
  ca : ∀ k, OwnC q p1 sb1 p2 sb2 c1.sets c2.sets sv1 sv2 k → ¬ OwnR pa va k
  cb : ∀ k, OwnC q p1 sb1 p2 sb2 c1.sets c2.sets sv1 sv2 k → ¬ OwnR pb vb k
  ab : ∀ k, OwnR pa va k → ¬ OwnR pb vb k
  lc : ∀ k, OwnC q p1 sb1 p2 sb2 c1.sets c2.sets sv1 sv2 k → B0 ≤ k
  la : ∀ k, OwnR pa va k → B0 ≤ k
  lb : ∀ k, OwnR pb vb k → B0 ≤ k

theorem Fr.keep {O O' X : Nat → Prop} {w w' : World} (h : Fr O O' w w') (hx : ∀ k, X k → k < w.heap.size) (hd : ∀ k, O k → ¬ X k) : (∀ k, X k → w'.heap[k]? = w.heap[k]?) ∧ ∀ k, O' k → ¬ X k :=
  ⟨fun k hk => h.block k (hx k hk) (fun e => hd k e hk), fun k hk hx2 => by
    rcases h.own k hk with e | e
    · exact hd k e hx2
    · have := hx k hx2; omega⟩
section
variable {B0 : Nat} {w w' : World} {q p1 sb1 p2 sb2 pa pb : Nat} {c1 c2 : Conf} {sv1 sv2 sv1' sv2' : Nat → Value} {x1 x2 x1' x2' : Nat → List CLine} {m m' : Nat} {va vb va' vb' : Value} {na nb na' nb' : Nat} {ua ub ua' ub' : List UL}
theorem Play.later (h : Play B0 w q p1 sb1 p2 sb2 pa pb c1 c2 sv1 sv2 x1 x2 m va vb na nb ua ub) (hb : Below w.heap.size w w') : Play B0 w' q p1 sb1 p2 sb2 pa pb c1 c2 sv1 sv2 x1 x2 m va vb na nb ua ub :=
  ⟨h.c.later hb, h.a.later hb, h.b.later hb, h.ca, h.cb, h.ab, h.lc, h.la, h.lb⟩
theorem fr_low {O O' : Nat → Prop} (hs : B0 ≤ w.heap.size) (hl : ∀ k, O k → B0 ≤ k) (hf : Fr O O' w w') : (∀ k, O' k → B0 ≤ k) ∧ Below B0 w w' :=
  ⟨fun k hk => by rcases hf.own k hk with e | e; exact hl k e; omega, hf.below B0 hl hs⟩
theorem Play.cache (h : Play B0 w q p1 sb1 p2 sb2 pa pb c1 c2 sv1 sv2 x1 x2 m va vb na nb ua ub) (hs : B0 ≤ w.heap.size) (hc : CacheSt w' q p1 sb1 p2 sb2 c1 c2 sv1' sv2' x1' x2' m')
    (hf : Fr (OwnC q p1 sb1 p2 sb2 c1.sets c2.sets sv1 sv2) (OwnC q p1 sb1 p2 sb2 c1.sets c2.sets sv1' sv2') w w') : Play B0 w' q p1 sb1 p2 sb2 pa pb c1 c2 sv1' sv2' x1' x2' m' va vb na nb ua ub ∧ Below B0 w w' := by
  obtain ⟨k1, k2⟩ := hf.keep (fun k hk => h.a.lt hk) h.ca
  obtain ⟨k3, k4⟩ := hf.keep (fun k hk => h.b.lt hk) h.cb
  obtain ⟨k5, k6⟩ := fr_low hs h.lc hf
  exact ⟨⟨hc, h.a.keep k1, h.b.keep k3, k2, k4, h.ab, k5, h.la, h.lb⟩, k6⟩
theorem Play.first (h : Play B0 w q p1 sb1 p2 sb2 pa pb c1 c2 sv1 sv2 x1 x2 m va vb na nb ua ub) (hs : B0 ≤ w.heap.size) (ha : LevR w' pa va' c1 na' ua') (hf : Fr (OwnR pa va) (OwnR pa va') w w') :
    Play B0 w' q p1 sb1 p2 sb2 pa pb c1 c2 sv1 sv2 x1 x2 m va' vb na' nb ua' ub ∧ Below B0 w w' := by
  obtain ⟨k1, k2⟩ := hf.keep (fun k hk => h.c.lt hk) (fun k h1 h2 => h.ca k h2 h1)
  obtain ⟨k3, k4⟩ := hf.keep (fun k hk => h.b.lt hk) h.ab
  obtain ⟨k5, k6⟩ := fr_low hs h.la hf
  exact ⟨⟨⟨h.c.st.of_heap (k1 q (.inl rfl)), h.c.l1.keep fun k hk => k1 k (.inr (.inl hk)), h.c.l2.keep fun k hk => k1 k (.inr (.inr hk)), h.c.dj, h.c.q1, h.c.q2⟩, ha, h.b.keep k3, fun k h1 h2 => k2 k h2 h1, h.cb, k4, h.lc, k5, h.lb⟩, k6⟩
theorem Play.second (h : Play B0 w q p1 sb1 p2 sb2 pa pb c1 c2 sv1 sv2 x1 x2 m va vb na nb ua ub) (hs : B0 ≤ w.heap.size) (hb : LevR w' pb vb' c2 nb' ub') (hf : Fr (OwnR pb vb) (OwnR pb vb') w w') :
    Play B0 w' q p1 sb1 p2 sb2 pa pb c1 c2 sv1 sv2 x1 x2 m va vb' na nb' ua ub' ∧ Below B0 w w' := by
  obtain ⟨k1, k2⟩ := hf.keep (fun k hk => h.c.lt hk) (fun k h1 h2 => h.cb k h2 h1)
  obtain ⟨k3, k4⟩ := hf.keep (fun k hk => h.a.lt hk) (fun k h1 h2 => h.ab k h2 h1)
  obtain ⟨k5, k6⟩ := fr_low hs h.lb hf
  exact ⟨⟨⟨h.c.st.of_heap (k1 q (.inl rfl)), h.c.l1.keep fun k hk => k1 k (.inr (.inl hk)), h.c.l2.keep fun k hk => k1 k (.inr (.inr hk)), h.c.dj, h.c.q1, h.c.q2⟩, h.a.keep k3, hb, h.ca, fun k h1 h2 => k2 k h2 h1, fun k h1 h2 => k4 k h2 h1, h.lc, h.la, k5⟩, k6⟩
end
/-- what the reference's list bears after n uses -/
structure Bnd (n : Nat) (us : List UL) : Prop where
  len : us.length ≤ n
  el : ∀ u ∈ us, u.line ≤ 65535 ∧ u.tm ≤ n
theorem Bnd.use {sets ways n line : Nat} {wr : Bool} {us us' : List UL} {hit : Bool} {out : Int} (h : Bnd n us) (hu : UseR sets ways n line wr us us' hit out) (hl : line ≤ 65535) : Bnd (n + 1) us' := by
  cases hu with
  | hit pre u post ha hg hl2 =>
    subst ha
    refine ⟨?_, fun v hv => ?_⟩
    · have := h.len; simp at this ⊢; omega
    · rcases List.mem_append.1 hv with h1 | h1
      · have := h.el v (List.mem_append_left _ h1); omega
      · rcases List.mem_cons.1 h1 with rfl | h1
        · have := h.el u (by simp); simp only; omega
        · have := h.el v (List.mem_append_right _ (List.mem_cons_of_mem _ h1)); omega
  | room hn hc =>
    refine ⟨?_, fun v hv => ?_⟩
    · have := h.len; simp; omega
    · rcases List.mem_append.1 hv with h1 | h1
      · have := h.el v h1; omega
      · simp at h1; subst h1; simp [newU]; omega
  | full hn hc pre u post ha hl2 hm =>
    subst ha
    refine ⟨?_, fun v hv => ?_⟩
    · have := h.len; simp at this ⊢; omega
    · rcases List.mem_append.1 hv with h1 | h1
      · rcases List.mem_append.1 h1 with h1 | h1
        · have := h.el v (List.mem_append_left _ h1); omega
        · rcases List.mem_cons.1 h1 with rfl | h1
          · have := h.el u (by simp); simp only; omega
          · have := h.el v (List.mem_append_right _ (List.mem_cons_of_mem _ h1)); omega
      · simp at h1; subst h1; simp [newU]; omega
theorem RelL.use {c : Conf} {n word : Nat} {wr : Bool} {us us' : List UL} {x : Nat → List CLine} {hit : Bool} {out : Int} (h : RelL c.sets n us x) (hu : UseR c.sets c.ways n (lnOf c word) wr us us' hit out) (ok : c.Ok) :
    RelL c.sets (n + 1) us' (stepL c word wr x) ∧ hit = hitL c word x ∧ (hit = false → out = if (oldL c word x).2 = true then (oldL c word x).1 else -1) := h.step hu ok.y.1

theorem ccheck_val {c : ConfI} {w : World} : Calls Try.prog 27 #[.agg #[.int .i64 c.words, .int .i64 c.sets, .int .i64 c.ways, .int .i64 c.miss]] w fun e w' => e = .returned (.int .i64 (confE c)) ∧ Below w.heap.size w w' := ccheck_any c w
def NewEPost (w : World) (e : Ending) (w' : World) : Prop := e = .returned (.tuple #[.pointer none, .int .i64 4]) ∧ Below w.heap.size w w'
set_option maxHeartbeats 2000000 in
theorem cnew_bad (a0 a1 a2 a3 b0 b1 b2 b3 : Int) (w : World) (h : confB ⟨a0, a1, a2, a3⟩ = false ∨ confB ⟨b0, b1, b2, b3⟩ = false) :
    Calls Try.prog 8 #[.agg #[.int .i64 a0, .int .i64 a1, .int .i64 a2, .int .i64 a3], .agg #[.int .i64 b0, .int .i64 b1, .int .i64 b2, .int .i64 b3]] w (NewEPost w) := by
  have HC1 := fun wx => Lib.hid (ccheck_any ⟨a0, a1, a2, a3⟩ wx)
  have HC2 := fun wx => Lib.hid (ccheck_any ⟨b0, b1, b2, b3⟩ wx)
  simp only [ConfI.val] at HC1 HC2
  have hb1 : Below w.heap.size w ((w.alloc (.cells #[.int .i64 a0, .int .i64 a1, .int .i64 a2, .int .i64 a3] 23)).alloc (.cells #[.int .i64 b0, .int .i64 b1, .int .i64 b2, .int .i64 b3] 23)) :=
    ((Below.refl _ _).alloc (Nat.le_refl _) _).alloc (by simp) _
  have HB1 := Lib.hid hb1
  have HBB := Lib.hid (Blk.new (w.alloc (.cells #[.int .i64 a0, .int .i64 a1, .int .i64 a2, .int .i64 a3] 23)) [.int .i64 b0, .int .i64 b1, .int .i64 b2, .int .i64 b3] 23)
  clear hb1
  cases ha : confB ⟨a0, a1, a2, a3⟩
  · rw [confE_bad ha] at HC1
    clear ha h
    go_enter Try.func8, Try.ntmps8
    go_wp2_with fail
    refine (HC1 _).out.mono ?_
    rintro e w2 ⟨rfl, hb2⟩
    have HB2 := Lib.hid (HB1.out.trans (hb2.mono HB1.out.size))
    clear hb2
    go_wp2_with fail
    go_ret2
    exact ⟨rfl, HB2.out⟩
  · have hb : confB ⟨b0, b1, b2, b3⟩ = false := by rcases h with h | h; (rw [ha] at h; cases h); exact h
    rw [confE_ok ha] at HC1
    rw [confE_bad hb] at HC2
    clear ha hb h
    rw [World.size_alloc] at HBB
    go_enter Try.func8, Try.ntmps8
    go_wp2_with fail
    refine (HC1 _).out.mono ?_
    rintro e w2 ⟨rfl, hb2⟩
    have HB2 := Lib.hid (HB1.out.trans (hb2.mono HB1.out.size))
    have hbb := HBB.out.below hb2 HBB.out.lt
    have k0 := hbb.cell 0
    have k1 := hbb.cell 1
    have k2 := hbb.cell 2
    have k3 := hbb.cell 3
    simp only [List.getElem?_cons_succ, List.getElem?_cons_zero] at k0 k1 k2 k3
    clear hb2 hbb
    go_wp2_with fail
    refine (HC2 _).out.mono ?_
    rintro e w3 ⟨rfl, hb3⟩
    have HB3 := Lib.hid (HB2.out.trans (hb3.mono HB2.out.size))
    clear hb3
    go_wp2_with fail
    go_ret2
    exact ⟨rfl, HB3.out⟩
end Go.Proofs.Ytkpeeemnholmnab
