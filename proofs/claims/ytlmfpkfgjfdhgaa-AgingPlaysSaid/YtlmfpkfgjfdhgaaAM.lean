/- Who waits is elder, or younger, than the holder (plain law). -/
import Derived.Test.YtlmfpkfgjfdhgaaAG
namespace Go.Proofs.Ytlmfpkfgjfdhgaa
open Go.RowKit

def older (a b : Mb) : Prop := a.stamp < b.stamp ∨ (a.stamp = b.stamp ∧ a.id < b.id)
theorem older_iff (a b : Mb) : older a b ↔ ageC a b < 0 := (ageC_neg a b).symm
/-- the age of who waits, and of who is waited for. -/
def aged (wd : Bool) (m h : Mb) : Prop := if wd then older h m else older m h
theorem aged_sg {wd : Bool} {m h m' h' : Mb} (a : aged wd m h) (e1 : sgM m' = sgM m) (e2 : sgM h' = sgM h) : aged wd m' h' := by
  simp only [sgM, Prod.mk.injEq] at e1 e2
  unfold aged older at *
  rw [e1.1, e1.2, e2.1, e2.2]; exact a
/-- who waits does so for a lock of a member of the right age, or for a key that is to be given. -/
def WaitX (wd : Bool) (M : List Mb) (K : List Lk) (ks : List ByteArray) : Prop :=
  ∀ m ∈ M, m.waits = true → m.key ∈ ks ∨ ∃ l ∈ K, l.key = m.key ∧ ∃ h ∈ M, h.id = l.holder ∧ aged wd m h
theorem sg_mem {M M' : List Mb} (h : M'.map sgM = M.map sgM) {m : Mb} (hm : m ∈ M) : ∃ m' ∈ M', sgM m' = sgM m := by
  have h1 : sgM m ∈ M'.map sgM := by rw [h]; exact List.mem_map_of_mem hm
  exact List.mem_map.1 h1
/-- fewer wait. -/
theorem WaitX.less {wd : Bool} {M M' : List Mb} {K K' : List Lk} {ks ks' : List ByteArray} (h : WaitX wd M K ks) (hsg : M'.map sgM = M.map sgM) (hw : ∀ m' ∈ M', m'.waits = true → m' ∈ M)
    (hk : ∀ m ∈ M', m.waits = true → m.key ∈ ks → m.key ∈ ks' ∨ ∃ l ∈ K', l.key = m.key ∧ ∃ h ∈ M', h.id = l.holder ∧ aged wd m h)
    (hl : ∀ m ∈ M', m.waits = true → ∀ l ∈ K, l.key = m.key → m.key ∈ ks ∨ l ∈ K') : WaitX wd M' K' ks' := by
  intro m hm hmw
  rcases h m (hw m hm hmw) hmw with h1 | ⟨l, h1, h2, x, h3, h4, h5⟩
  · exact hk m hm hmw h1
  · rcases hl m hm hmw l h1 h2 with h6 | h6
    · exact hk m hm hmw h6
    · obtain ⟨x', h7, h8⟩ := sg_mem hsg h3
      have h9 : x'.id = x.id := congrArg Prod.fst h8
      exact .inr ⟨l, h6, h2, x', h7, by rw [h9]; exact h4, aged_sg h5 rfl h8⟩
theorem restM_waits {M : List Mb} {id : Int} {m : Mb} (hm : m ∈ restM M id) (hw : m.waits = true) : m ∈ M := by
  unfold restM at hm
  rcases mem_modify' hm with h | ⟨x, _, rfl⟩
  · exact h
  · cases hw
theorem WaitX.rest {wd : Bool} {M : List Mb} {K : List Lk} {ks : List ByteArray} (h : WaitX wd M K ks) (id : Int) : WaitX wd (restM M id) K ks :=
  h.less (restM_sg M id) (fun _ hm hw => restM_waits hm hw) (fun _ _ _ hk => .inl hk) (fun _ _ _ _ hl _ => .inr hl)

theorem older_irr (a : Mb) : ¬ older a a := by unfold older; omega
theorem older_trans {a b c : Mb} (h1 : older a b) (h2 : older b c) : older a c := by unfold older at *; omega
theorem older_tot {a b : Mb} (h : a.id ≠ b.id) : older a b ∨ older b a := by unfold older; omega
theorem minF_le : ∀ (l : List Mb) (m : Mb), ∀ x ∈ m :: l, ¬ older x (minF m l)
  | [], m, x, hx => by
    simp at hx; subst hx; exact older_irr _
  | y :: r, m, x, hx => by
    have hrec := minF_le r (if ageC y m < 0 then y else m)
    rw [show minF m (y :: r) = minF (if ageC y m < 0 then y else m) r from rfl]
    have h0 := hrec _ (List.mem_cons_self ..)
    rcases List.mem_cons.1 hx with rfl | hx
    · intro ho
      by_cases hc : ageC y x < 0
      · rw [if_pos hc] at h0 ho
        exact h0 (older_trans ((older_iff _ _).2 hc) ho)
      · rw [if_neg hc] at h0 ho
        exact h0 ho
    · rcases List.mem_cons.1 hx with rfl | hx
      · intro ho
        by_cases hc : ageC x m < 0
        · rw [if_pos hc] at h0 ho; exact h0 ho
        · rw [if_neg hc] at h0 ho
          have hc' : ¬ older x m := fun h => hc ((older_iff _ _).1 h)
          unfold older at *; omega
      · exact hrec x (List.mem_cons_of_mem _ hx)
theorem ageC_pos (x y : Mb) : 0 < ageC x y ↔ older y x := by
  unfold ageC older
  rcases orI_cases (cmpI x.stamp y.stamp) (cmpI x.id y.id) with ⟨h, e⟩ | ⟨h, e⟩
  · rw [e]
    have := (cmpI_zero _ _).1 h
    rcases cmpI_cases x.id y.id with ⟨h1, e1⟩ | ⟨h1, e1⟩ | ⟨h1, e1⟩ <;> rw [e1] <;> constructor <;> intro _ <;> omega
  · rw [e]
    have h1 : ¬ x.stamp = y.stamp := fun h' => h ((cmpI_zero _ _).2 h')
    rcases cmpI_cases x.stamp y.stamp with ⟨h1, e1⟩ | ⟨h1, e1⟩ | ⟨h1, e1⟩ <;> rw [e1] <;> constructor <;> intro _ <;> omega
theorem maxF_ge : ∀ (l : List Mb) (m : Mb), ∀ x ∈ m :: l, ¬ older (maxF m l) x
  | [], m, x, hx => by
    simp at hx; subst hx; exact older_irr _
  | y :: r, m, x, hx => by
    have hrec := maxF_ge r (if 0 < ageC y m then y else m)
    rw [show maxF m (y :: r) = maxF (if 0 < ageC y m then y else m) r from rfl]
    have h0 := hrec _ (List.mem_cons_self ..)
    rcases List.mem_cons.1 hx with rfl | hx
    · intro ho
      by_cases hc : 0 < ageC y x
      · rw [if_pos hc] at h0 ho
        exact h0 (older_trans ho ((ageC_pos _ _).1 hc))
      · rw [if_neg hc] at h0 ho
        exact h0 ho
    · rcases List.mem_cons.1 hx with rfl | hx
      · intro ho
        by_cases hc : 0 < ageC x m
        · rw [if_pos hc] at h0 ho; exact h0 ho
        · rw [if_neg hc] at h0 ho
          have hc' : ¬ older m x := fun h => hc ((ageC_pos _ _).2 h)
          unfold older at *; omega
      · exact hrec x (List.mem_cons_of_mem _ hx)
theorem pick_aged (wd : Bool) (x0 : Mb) (r : List Mb) {m : Mb} (hm : m ∈ x0 :: r) (hne : m.id ≠ (pickM wd x0 r).id) : aged wd m (pickM wd x0 r) := by
  unfold aged
  cases wd with
  | true =>
    have h := minF_le r x0 m hm
    rcases older_tot hne with h1 | h1
    · exact absurd h1 h
    · exact h1
  | false =>
    have h := maxF_ge r x0 m hm
    rcases older_tot hne with h1 | h1
    · exact h1
    · exact absurd h1 h
theorem mem_waitM {M : List Mb} {key : ByteArray} {m : Mb} : m ∈ waitM M key ↔ m ∈ M ∧ m.waits = true ∧ m.key = key := by
  unfold waitM
  rw [List.mem_filter, Bool.and_eq_true_iff]
  constructor
  · rintro ⟨h1, h2, h3⟩; exact ⟨h1, h2, toList_inj (by simpa using h3)⟩
  · rintro ⟨h1, h2, rfl⟩; exact ⟨h1, h2, by simp⟩
theorem sortM_id {M : List Mb} (hs : SortM M) {a b : Mb} (ha : a ∈ M) (hb : b ∈ M) (e : a.id = b.id) : a = b := by
  obtain ⟨i, hi, rfl⟩ := List.getElem_of_mem ha
  obtain ⟨j, hj, rfl⟩ := List.getElem_of_mem hb
  have := sortM_inj hs hi hj e
  subst this; rfl
theorem restM_not {M : List Mb} (hs : SortM M) {id : Int} (hh : hasM M id = true) {m : Mb} (hm : m ∈ restM M id) (hw : m.waits = true) : m.id ≠ id := fun e => by
  have := restM_rests hs hh m hm e
  rw [this] at hw; cases hw
theorem giveT_waits {wd : Bool} {M : List Mb} {K : List Lk} {key : ByteArray} {ks : List ByteArray} (hs : SortM M) (hk : SortK K) (hh : hasK K key = true) (h : WaitX wd M K (key :: ks)) : WaitX wd (giveT wd M K key).1 (giveT wd M K key).2 ks := by
  have hkeep : ∀ l ∈ K, l.key ≠ key → l ∈ (giveT wd M K key).2 := fun l hl hne => giveT_keeps hk hh hl hne
  have hsg := giveT_sg wd M K key
  refine h.less hsg ?_ ?_ ?_
  · intro m hm hw
    unfold giveT at hm
    split at hm
    · exact hm
    · exact restM_waits hm hw
  · intro m hm hw hmk
    rcases List.mem_cons.1 hmk with e | hmk
    · right
      unfold giveT at hm ⊢
      split at hm
      · rename_i hnil
        have : m ∈ waitM M key := mem_waitM.2 ⟨hm, hw, e⟩
        rw [hnil] at this; cases this
      · rename_i x0 r hcons
        obtain ⟨hp, hpk⟩ := (hasK_iff hk key).1 hh
        have hmM := restM_waits hm hw
        have hmw : m ∈ x0 :: r := by rw [← hcons]; exact mem_waitM.2 ⟨hmM, hw, e⟩
        have hpm : pickM wd x0 r ∈ M := by
          have : pickM wd x0 r ∈ waitM M key := by rw [hcons]; exact pick_mem wd x0 r
          exact (mem_waitM.1 this).1
        have hne := restM_not hs (hasM_mem hpm) hm hw
        refine ⟨⟨key, (pickM wd x0 r).id⟩, ?_, e.symm, ?_⟩
        · rw [List.mem_iff_getElem]
          refine ⟨posK K key, by rw [List.length_modify]; exact hp, ?_⟩
          rw [List.getElem_modify, if_pos rfl, hpk]
        · obtain ⟨h', h7, h8⟩ := sg_mem (restM_sg M (pickM wd x0 r).id) hpm
          exact ⟨h', h7, congrArg Prod.fst h8, aged_sg (pick_aged wd x0 r hmw hne) rfl h8⟩
    · exact .inl hmk
  · intro m hm hw l hl hlk
    by_cases e : l.key = key
    · exact .inl (by rw [← hlk, e]; exact List.mem_cons_self ..)
    · exact .inr (hkeep l hl e)
theorem gives_waits {wd : Bool} : ∀ (ks : List ByteArray) (s : List Mb × List Lk), TOk s.1 s.2 → (∀ x ∈ ks, hasK s.2 x = true) → ks.Nodup → WaitX wd s.1 s.2 ks → WaitX wd (gives wd s ks).1 (gives wd s ks).2 []
  | [], _, _, _, _, h => h
  | x :: r, s, h, ha, hn, hw => by
    obtain ⟨n1, n2⟩ := List.nodup_cons.1 hn
    have hx := ha x (List.mem_cons_self ..)
    exact gives_waits (wd := wd) r (giveT wd s.1 s.2 x) (giveT_ok h) (fun y hy => by
      rw [giveT_has h.sk hx (fun e => n1 (by rw [← e]; exact hy))]; exact ha y (List.mem_cons_of_mem _ hy)) n2 (giveT_waits h.sm h.sk hx hw)
theorem losesT_waits {wd : Bool} {M : List Mb} {K : List Lk} {id : Int} (h : TOk M K) (hw : WaitX wd M K (holdsK K id)) : WaitX wd (losesT wd M K id).1 (losesT wd M K id).2 [] := by
  unfold losesT
  exact gives_waits (holdsK K id) (restM M id, K) (restM_tok id h) (fun x hx => holdsK_has hx) (holdsK_nodup h.sk id) (hw.rest id)
theorem WaitX.nil {wd : Bool} {M : List Mb} {K : List Lk} (h : WaitX wd M K []) (ks : List ByteArray) : WaitX wd M K ks := fun m hm hw => by
  rcases h m hm hw with h1 | h1
  · cases h1
  · exact .inr h1

/-- what holds of a table whose members wait by age. -/
structure CInv (wd : Bool) (M : List Mb) (K : List Lk) : Prop where
  sok : SOk M K
  wt : WaitX wd M K []
  rng : ∀ m ∈ M, 0 ≤ m.id ∧ 0 ≤ m.stamp ∧ m.stamp ≤ 1099511627776
  len : M.length ≤ 64
theorem CInv.start (wd : Bool) : CInv wd [] [] := ⟨SOk.nil, fun _ h => (by cases h), fun _ h => (by cases h), by decide⟩
theorem CInv.of_sg {wd : Bool} {M M' : List Mb} {K K' : List Lk} (h : CInv wd M K) (hs : SOk M' K') (hw : WaitX wd M' K' []) (e : M'.map sgM = M.map sgM) : CInv wd M' K' :=
  ⟨hs, hw, fun m hm => by
    obtain ⟨m0, h1, h2, h3⟩ := mem_sg e hm
    have := h.rng m0 h1
    rw [h2, h3] at this; exact this, by have := congrArg List.length e; simp only [List.length_map] at this; rw [this]; exact h.len⟩
theorem CInv.join {wd : Bool} {M M' : List Mb} {K : List Lk} {id stamp x : Int} (h : CInv wd M K) (e : joinT M id stamp = (x, M')) : CInv wd M' K ∧ ∀ m ∈ M', (m ∈ M ∧ (x = 0 → m.id ≠ id)) ∨ (x = 0 ∧ m.id = id ∧ m.stamp = stamp) := by
  have hs := h.sok.join e
  unfold joinT at e
  split at e
  · obtain ⟨rfl, rfl⟩ := Prod.mk.inj e
    exact ⟨h, fun m hm => .inl ⟨hm, fun e => by cases e⟩⟩
  rename_i hr
  split at e
  · obtain ⟨rfl, rfl⟩ := Prod.mk.inj e
    exact ⟨h, fun m hm => .inl ⟨hm, fun e => by cases e⟩⟩
  rename_i hno
  split at e
  · obtain ⟨rfl, rfl⟩ := Prod.mk.inj e
    exact ⟨h, fun m hm => .inl ⟨hm, fun e => by cases e⟩⟩
  rename_i hl
  obtain ⟨rfl, rfl⟩ := Prod.mk.inj e
  have hle : posM M id ≤ M.length := posBy_le _ _
  refine ⟨⟨hs, fun m hm hw => ?_, fun m hm => ?_, by rw [insAt_len hle]; omega⟩, fun m hm => ?_⟩
  · rcases mem_insAt.1 hm with rfl | hm
    · cases hw
    · rcases h.wt m hm hw with h1 | ⟨l, h1, h2, y, h3, h4⟩
      · cases h1
      · exact .inr ⟨l, h1, h2, y, mem_insAt.2 (.inr h3), h4⟩
  · rcases mem_insAt.1 hm with rfl | hm
    · simp only; omega
    · exact h.rng m hm
  · rcases mem_insAt.1 hm with rfl | hm
    · exact .inr ⟨rfl, rfl, rfl⟩
    · exact .inl ⟨hm, fun _ e2 => hno (List.any_eq_true.2 ⟨m, hm, by simpa using e2⟩)⟩
theorem CInv.leave {wd : Bool} {M M' : List Mb} {K K' : List Lk} {id x : Int} (h : CInv wd M K) (e : leaveT wd M K id = (x, M', K')) : CInv wd M' K' ∧ ∀ m ∈ M', ∃ m0 ∈ M, m0.id = m.id ∧ m0.stamp = m.stamp := by
  have hs := (h.sok.leave e).1
  unfold leaveT at e
  split at e
  · rename_i hhI
    simp only [Prod.mk.injEq] at e
    obtain ⟨_, rfl, rfl⟩ := e
    have hsg := losesT_sg wd M K id
    have hw := losesT_waits h.sok.ok (h.wt.nil (holdsK K id))
    have hfree := losesT_free (wd := wd) h.sok.ok hhI
    have h3 := losesT_ok (wd := wd) (id := id) h.sok.ok
    have hhl : hasM (losesT wd M K id).1 id = true := by rw [hasM_ids (losesT_ids ..)]; exact hhI
    obtain ⟨q1, q2⟩ := (hasM_iff h3.sm id).1 hhl
    have hp := posM_ids (losesT_ids wd M K id) id
    refine ⟨⟨hs, fun m hm hmw => ?_, fun m hm => ?_, ?_⟩, fun m hm => ?_⟩
    · rcases hw m (List.mem_of_mem_eraseIdx hm) hmw with h1 | ⟨l, h1, h2, y, h4, h5, h6⟩
      · cases h1
      · refine .inr ⟨l, h1, h2, y, ?_, h5, h6⟩
        obtain ⟨j, hj, rfl⟩ := List.getElem_of_mem h4
        refine List.mem_eraseIdx_iff_getElem.2 ⟨j, hj, fun ej => ?_, rfl⟩
        rw [← hp] at ej
        subst ej
        exact hfree l h1 (h5.symm.trans q2)
    · obtain ⟨m0, g1, g2, g3⟩ := mem_sg hsg (List.mem_of_mem_eraseIdx hm)
      have := h.rng m0 g1
      rw [g2, g3] at this; exact this
    · have h1 := List.length_eraseIdx_le (losesT wd M K id).1 (posM M id)
      have h2 := congrArg List.length hsg
      simp only [List.length_map] at h2
      have := h.len
      omega
    · exact mem_sg hsg (List.mem_of_mem_eraseIdx hm)
  · simp only [Prod.mk.injEq] at e
    obtain ⟨_, rfl, rfl⟩ := e
    exact ⟨h, fun m hm => ⟨m, hm, rfl, rfl⟩⟩
theorem mem_waitT {M : List Mb} {id : Int} {key : ByteArray} (hs : SortM M) (hh : hasM M id = true) {m : Mb} (hm : m ∈ waitT M id key) : (m ∈ M ∧ m.id ≠ id) ∨ (m.id = id ∧ m.stamp = (mbOf M id).stamp ∧ m.key = key) := by
  obtain ⟨q1, q2⟩ := (hasM_iff hs id).1 hh
  unfold waitT at hm
  obtain ⟨j, hj, rfl⟩ := List.getElem_of_mem hm
  rw [List.length_modify] at hj
  rw [List.getElem_modify]
  split
  · rename_i ej
    subst ej
    exact .inr ⟨q2, by rw [mbOf_eq q1], rfl⟩
  · rename_i ej
    exact .inl ⟨List.getElem_mem hj, fun e => ej (sortM_inj hs q1 hj (q2.trans e.symm))⟩
theorem waitT_waits {wd : Bool} {M : List Mb} {K : List Lk} {id : Int} {key : ByteArray} (h : CInv wd M K) (hh : hasM M id = true) (ks : List ByteArray) (hk : key ∈ ks ∨ ∃ l ∈ K, l.key = key ∧ ∃ x ∈ M, x.id = l.holder ∧ aged wd (mbOf M id) x) : WaitX wd (waitT M id key) K ks := by
  have hsg := waitT_sg M id key
  intro m hm hw
  rcases mem_waitT h.sok.ok.sm hh hm with ⟨h1, h2⟩ | ⟨h1, h2, h3⟩
  · rcases h.wt m h1 hw with h4 | ⟨l, h4, h5, x, h6, h7, h8⟩
    · cases h4
    · obtain ⟨x', g1, g2⟩ := sg_mem hsg h6
      exact .inr ⟨l, h4, h5, x', g1, (congrArg Prod.fst g2).trans h7, aged_sg h8 rfl g2⟩
  · rcases hk with hk | ⟨l, h4, h5, x, h6, h7, h8⟩
    · exact .inl (by rw [h3]; exact hk)
    · obtain ⟨x', g1, g2⟩ := sg_mem hsg h6
      refine .inr ⟨l, h4, by rw [h5, h3], x', g1, (congrArg Prod.fst g2).trans h7, aged_sg h8 ?_ g2⟩
      obtain ⟨_, h9⟩ := mbOf_has h.sok.ok.sm hh
      simp only [sgM, h1, h2, h9]
theorem CInv.ask {wd : Bool} {M M' : List Mb} {K K' : List Lk} {id x y : Int} {key : ByteArray} (h : CInv wd M K) (hb : K.length < 100000) (e : askT wd M K id key = ((x, y), M', K')) : CInv wd M' K' ∧ M'.map sgM = M.map sgM := by
  have hs := (h.sok.ask hb e).1
  have hsg := askT_sg wd M K id key
  rw [e] at hsg
  refine ⟨h.of_sg hs ?_ hsg, hsg⟩
  unfold askT at e
  split at e
  · simp only [Prod.mk.injEq] at e
    obtain ⟨⟨rfl, rfl⟩, rfl, rfl⟩ := e
    exact h.wt
  split at e
  · simp only [Prod.mk.injEq] at e
    obtain ⟨⟨rfl, rfl⟩, rfl, rfl⟩ := e
    exact h.wt
  rename_i hmem
  have hmem : hasM M id = true := by simpa using hmem
  split at e
  · simp only [Prod.mk.injEq] at e
    obtain ⟨⟨rfl, rfl⟩, rfl, rfl⟩ := e
    exact h.wt
  split at e
  · simp only [Prod.mk.injEq] at e
    obtain ⟨⟨rfl, rfl⟩, rfl, rfl⟩ := e
    intro m hm hw
    rcases h.wt m hm hw with h1 | ⟨l, h1, h2⟩
    · cases h1
    · exact .inr ⟨l, mem_insAt.2 (.inr h1), h2⟩
  rename_i hk
  have hk : hasK K key = true := by simpa using hk
  obtain ⟨l0, hl0, hlk0, hh0⟩ := holdK_mem h.sok.ok.sk hk
  have hhm : hasM M (holdK K key) = true := by rw [← hh0]; exact h.sok.hold l0 hl0
  obtain ⟨p1, p2⟩ := mbOf_has h.sok.ok.sm hhm
  obtain ⟨r1, r2⟩ := mbOf_has h.sok.ok.sm hmem
  split at e
  · simp only [Prod.mk.injEq] at e
    obtain ⟨⟨rfl, rfl⟩, rfl, rfl⟩ := e
    exact h.wt
  rename_i hne
  split at e
  · rename_i hag
    split at e
    · simp only [Prod.mk.injEq] at e
      obtain ⟨⟨rfl, rfl⟩, e2⟩ := e
      have := losesT_waits (wd := wd) (id := holdK K key) (waitT_ok (id := id) (key := key) h.sok.ok) (waitT_waits h hmem (holdsK K (holdK K key)) (.inl (List.mem_map.2 ⟨l0, List.mem_filter.2 ⟨hl0, by simpa using hh0⟩, hlk0⟩)))
      rw [e2] at this; exact this
    · rename_i hwd
      simp only [Prod.mk.injEq] at e
      obtain ⟨⟨rfl, rfl⟩, rfl, rfl⟩ := e
      refine waitT_waits h hmem [] (.inr ⟨l0, hl0, hlk0, _, p1, p2.trans hh0.symm, ?_⟩)
      unfold aged
      rw [if_neg hwd]
      exact (older_iff _ _).2 hag
  · rename_i hag
    split at e
    · rename_i hwd
      simp only [Prod.mk.injEq] at e
      obtain ⟨⟨rfl, rfl⟩, rfl, rfl⟩ := e
      refine waitT_waits h hmem [] (.inr ⟨l0, hl0, hlk0, _, p1, p2.trans hh0.symm, ?_⟩)
      unfold aged
      rw [if_pos hwd]
      rcases older_tot (a := mbOf M id) (b := mbOf M (holdK K key)) (by rw [r2, p2]; exact fun e => hne e.symm) with h1 | h1
      · exact absurd ((older_iff _ _).1 h1) hag
      · exact h1
    · simp only [Prod.mk.injEq] at e
      obtain ⟨⟨rfl, rfl⟩, e2⟩ := e
      have := losesT_waits (wd := wd) (id := id) h.sok.ok (h.wt.nil (holdsK K id))
      rw [e2] at this; exact this
end Go.Proofs.Ytlmfpkfgjfdhgaa
