/-
  UtilsCats: what holds from round to round.
-/
import Derived.Test.YtoihipolfdhhnaaGreatDoorCatsC
namespace Go.Proofs.YtoihipolfdhhnaaGreatDoor

abbrev e0 : ByteArray := ⟨#[]⟩

inductive Ph (files : List (List ByteArray)) : M → Res → ByteArray → Int → Int → Int → Prop where
  | start : Ph files (cS files.length) {} e0 (-1) 0 0
  | opn (pre : List (List ByteArray)) (l : List ByteArray) (post : List (List ByteArray)) : files = pre ++ l :: post → Ph files (cO (post.length + 1)) { n := 9 } (addFiles e0 pre) (pre.length : Nat) ((0 : Nat) : Int) 1
  | rd (pre : List (List ByteArray)) (l : List ByteArray) (post : List (List ByteArray)) (p : List ByteArray) (s : ByteArray) (q : List ByteArray) : files = pre ++ l :: post → l = p ++ s :: q → Ph files (cR (post.length + 1)) { text := s } (addAll (addFiles e0 pre) p) (pre.length : Nat) ((p.length + 1 : Nat) : Int) 1
  | fin (pre : List (List ByteArray)) (l : List ByteArray) (post : List (List ByteArray)) : files = pre ++ l :: post → Ph files (cR (post.length + 1)) {} (addAll (addFiles e0 pre) l) (pre.length : Nat) ((l.length : Nat) : Int) 1
  | wr (pre : List (List ByteArray)) (l : List ByteArray) (post : List (List ByteArray)) (p : List ByteArray) (s : ByteArray) (q : List ByteArray) (t got : ByteArray) : files = pre ++ l :: post → l = p ++ s :: q → 1 ≤ t.size → t.size ≤ 256 → got ++ rest t (some1 t) = addAll (addFiles e0 pre) (p ++ [s]) →
      Ph files (cW (post.length + 1) t) { n := some1 t } got (pre.length : Nat) ((p.length + 1 : Nat) : Int) 1
  | cl (pre : List (List ByteArray)) (l : List ByteArray) (post : List (List ByteArray)) (piece : Int) : files = pre ++ l :: post → Ph files (cC (post.length + 1)) {} (addFiles e0 (pre ++ [l])) (pre.length : Nat) piece 0

theorem addFiles_size : ∀ (fs : List (List ByteArray)) (s : ByteArray), (∀ l ∈ fs, GoodF l) → (addFiles s fs).size ≤ s.size + 2560 * fs.length
  | [], s, _ => by simp [addFiles]
  | l :: fs, s, h => by
    have h1 := addFiles_size fs (addAll s l) (fun y hy => h y (List.mem_cons_of_mem _ hy))
    have h2 := h l (List.mem_cons_self ..)
    have h3 := addAll_size l s (fun x hx => (h2.2 x hx).2)
    have h4 := h2.1
    simp only [addFiles, List.foldl_cons, List.length_cons] at h1 ⊢
    omega

theorem addAll_snoc (s : ByteArray) (p : List ByteArray) (x : ByteArray) : addAll s (p ++ [x]) = addAll s p ++ x := by simp [addAll]
theorem addFiles_snoc (s : ByteArray) (p : List (List ByteArray)) (x : List ByteArray) : addFiles s (p ++ [x]) = addAll (addFiles s p) x := by simp [addFiles]

theorem halves (t : ByteArray) (n : Nat) (h : n ≤ t.size) : t.extract 0 n ++ t.extract n t.size = t := by
  rw [ByteArray.extract_append_extract]
  simp [Nat.min_eq_left, h]

theorem some1_ok {t : ByteArray} (h : 1 ≤ t.size) : 1 ≤ some1 t ∧ some1 t ≤ t.size := by
  unfold some1
  rw [Int.tdiv_eq_ediv_of_nonneg (by omega)]
  split <;> omega

theorem good_size {s : ByteArray} (h : Good s) : 1 ≤ s.size := by
  rcases Nat.lt_or_ge 0 s.size with h1 | h1
  · exact h1
  · have h2 : s = ⟨#[]⟩ := by
      apply ByteArray.ext
      have : s.data.size = 0 := by rw [ByteArray.size_data]; omega
      simpa using Array.size_eq_zero_iff.1 this
    have := h.1
    rw [h2, ByteArray.toList_eq] at this
    simp at this

theorem cats_main (w0 : World) (ad : Addr) (nf cf : Nat) (files : List (List ByteArray)) (hff : FilesAt w0.heap.size w0 (some ad) nf cf files) (hg : ∀ l ∈ files, GoodF l) (h10 : files.length ≤ 10) (hne : files ≠ []) (ku b kr : Nat) :
    ∀ (f n : Nat), n + f = 400 → ∀ (m : M) (r : Res) (got : ByteArray) (file piece opn : Int) (w : World) (a : Act), Ph files m r got file piece opn → K3 w0 (some ad) nf cf (addFiles e0 files) ku b kr m r got file piece opn n w a → Gets Tryz.prog 4 catsH3 a w (CatR w0) := by
  intro f
  induction f with
  | zero =>
    intro n hn m r got file piece opn w a _ hk
    have : n = 400 := by omega
    subst this
    exact cats_end w0 _ nf cf _ ku b kr m r got file piece opn w a hk
  | succ f ih =>
    intro n hn m r got file piece opn w a hph hk
    have hn4 : n < 400 := by omega
    have hn1 : n + 1 + f = 400 := by omega
    have hnf := hff.len
    -- what is read next
    have hread : ∀ (pre : List (List ByteArray)) (l : List ByteArray) (post : List (List ByteArray)) (k : Nat) (got : ByteArray) (m : M) (r : Res), files = pre ++ l :: post → k ≤ l.length → got = addAll (addFiles e0 pre) (l.take k) → next 10 m r = cR (post.length + 1) → okNext 10 m r →
        K3 w0 (some ad) nf cf (addFiles e0 files) ku b kr m r got (pre.length : Nat) (k : Nat) 1 n w a → Gets Tryz.prog 4 catsH3 a w (CatR w0) := by
      intro pre l post k got m r hf hkl hgot hm hok hk
      have hl : files[pre.length]? = some l := by rw [hf]; simp
      have hll := (hg l (by rw [hf]; simp)).1
      have hlen : files.length = pre.length + (post.length + 1) := by rw [hf]; simp
      refine cats_read w0 ad nf cf files hff pre.length k l hl (by omega) (by omega) _ ku b kr m (post.length + 1) r got 1 n w a hk hn4 hm hok (fun w' a' r' k' hr hk' => ?_)
      cases hlk : l[k]? with
      | some s =>
        rw [hlk] at hr
        obtain ⟨rfl, rfl⟩ := hr
        have hkl' := (List.getElem?_eq_some_iff.1 hlk)
        obtain ⟨h1, h2⟩ := hkl'
        have hsplit : l = l.take k ++ s :: l.drop (k + 1) := by
          rw [← h2, ← List.drop_eq_getElem_cons, List.take_append_drop]
        have htl : (l.take k).length = k := by rw [List.length_take]; omega
        refine ih (n + 1) hn1 _ _ _ _ _ _ w' a' (Ph.rd pre l post (l.take k) s (l.drop (k + 1)) hf hsplit) ?_
        rw [htl, ← hgot]
        exact hk'
      | none =>
        rw [hlk] at hr
        obtain ⟨rfl, rfl⟩ := hr
        have hkl' : l.length ≤ k' := List.getElem?_eq_none_iff.1 hlk
        have hke : k' = l.length := by omega
        have htk : l.take k' = l := List.take_of_length_le hkl'
        refine ih (n + 1) hn1 _ _ _ _ _ _ w' a' (Ph.fin pre l post hf) ?_
        rw [htk] at hgot
        rw [← hgot, ← hke]
        exact hk'
    cases hph with
    | start =>
      cases hfs : files with
      | nil => exact absurd hfs hne
      | cons l post =>
        have hl1 : files.length = post.length + 1 := by rw [hfs]; rfl
        rw [hl1] at hk
        refine cats_open w0 _ nf cf _ ku b kr _ (post.length + 1) _ _ _ _ _ n w a hk hn4 (tS _) (kS _) (by omega) (by omega) (fun w' a' hk' => ?_)
        exact ih (n + 1) hn1 _ _ _ _ _ _ w' a' (Ph.opn [] l post hfs) hk'
    | opn pre l post hf =>
      exact hread pre l post 0 _ _ _ hf (Nat.zero_le _) (by simp [addAll]) (tO _) (kO _) hk
    | rd pre l post p s q hf hl =>
      have hlm : l ∈ files := by rw [hf]; simp
      have hgs : Good s := (hg l hlm).2 s (by rw [hl]; simp)
      have h1 := good_size hgs
      have hlen : files.length = pre.length + (post.length + 1) := by rw [hf]; simp
      have hb1 := addFiles_size pre e0 (fun x hx => hg x (by rw [hf]; simp [hx]))
      have hb2 := addAll_size p (addFiles e0 pre) (fun x hx => ((hg l hlm).2 x (by rw [hl]; simp [hx])).2)
      have hpl : p.length ≤ 10 := by have := (hg l hlm).1; rw [hl] at this; simp at this; omega
      have he0 : e0.size = 0 := rfl
      refine cats_write w0 _ nf cf _ ku b kr _ (post.length + 1) s _ _ _ _ _ n w a hk hn4 (tRt _ s hgs.1) (kRt _ s hgs.1) hgs.2 h1 (by omega) (fun w' a' hk' => ?_)
      refine ih (n + 1) hn1 _ _ _ _ _ _ w' a' (Ph.wr pre l post p s q s _ hf hl h1 hgs.2 ?_) hk'
      have h2 := some1_ok h1
      rw [addAll_snoc, ByteArray.append_assoc]
      unfold rest
      rw [halves s _ (by omega)]
    | fin pre l post hf =>
      refine cats_close w0 _ nf cf _ ku b kr _ (post.length + 1) _ _ _ _ _ n w a hk hn4 (tRe _) (kRe _) (by omega) (fun w' a' hk' => ?_)
      rw [← addFiles_snoc] at hk'
      exact ih (n + 1) hn1 _ _ _ _ _ _ w' a' (Ph.cl pre l post _ hf) hk'
    | wr pre l post p s q t _ hf hl h1 h256 hgot =>
      have hlm : l ∈ files := by rw [hf]; simp
      have h2 := some1_ok h1
      have hlen : files.length = pre.length + (post.length + 1) := by rw [hf]; simp
      by_cases hlt : some1 t < t.size
      · have hrs : (rest t (some1 t)).size = t.size - (some1 t).toNat := by unfold rest; rw [ByteArray.size_extract]; omega
        have hb1 := addFiles_size pre e0 (fun x hx => hg x (by rw [hf]; simp [hx]))
        have hb2 := addAll_size (p ++ [s]) (addFiles e0 pre) (fun x hx => ((hg l hlm).2 x (by rw [hl]; simp at hx ⊢; rcases hx with hx | hx <;> simp [hx])).2)
        have hpl : p.length ≤ 10 := by have := (hg l hlm).1; rw [hl] at this; simp at this; omega
        have he0 : e0.size = 0 := rfl
        have hgs : got.size ≤ 1000000 := by
          have := congrArg ByteArray.size hgot
          rw [ByteArray.size_append] at this
          simp only [List.length_append, List.length_cons, List.length_nil] at hb2
          omega
        refine cats_write w0 _ nf cf _ ku b kr _ (post.length + 1) (rest t (some1 t)) _ _ _ _ _ n w a hk hn4 (tWr _ t _ h2.1 hlt) (kWe _ t _) (by omega) (by omega) hgs (fun w' a' hk' => ?_)
        refine ih (n + 1) hn1 _ _ _ _ _ _ w' a' (Ph.wr pre l post p s q _ _ hf hl (by omega) (by omega) ?_) hk'
        rw [← hgot, ByteArray.append_assoc]
        congr 1
        have h3 := some1_ok (t := rest t (some1 t)) (by omega)
        exact halves _ _ (by omega)
      · have heq : (some1 t).toNat = t.size := by omega
        have hre : rest t (some1 t) = e0 := by
          unfold rest
          rw [heq]
          exact ByteArray.extract_eq_empty_iff.2 (by omega)
        rw [hre] at hgot
        have hge : got = addAll (addFiles e0 pre) (p ++ [s]) := by rw [← hgot]; exact (ByteArray.append_empty).symm
        refine hread pre l post (p.length + 1) _ _ _ hf (by rw [hl]; simp) ?_ (tWe _ t _ (by omega)) (kWe _ t _) hk
        have htk : l.take (p.length + 1) = p ++ [s] := by
          rw [hl, show p ++ s :: q = (p ++ [s]) ++ q by simp]
          exact List.take_left' (by simp)
        rw [hge, htk]
    | cl pre l post piece hf =>
      cases post with
      | nil =>
        refine cats_exit w0 _ nf cf _ ku b kr _ _ _ _ _ _ n w a hk hn4 tC1 kC1 (by rw [hf]) rfl ?_ (by omega)
        rw [hnf, hf]
        simp
      | cons l' post =>
        have hlen : files.length = pre.length + (post.length + 2) := by rw [hf]; simp
        refine cats_open w0 _ nf cf _ ku b kr _ (post.length + 1) _ _ _ _ _ n w a hk hn4 (tC2 _) (kC2 _) (by omega) (by omega) (fun w' a' hk' => ?_)
        have hpl : ((pre.length : Nat) : Int) + 1 = ((pre ++ [l]).length : Nat) := by simp
        rw [hpl] at hk'
        exact ih (n + 1) hn1 _ _ _ _ _ _ w' a' (Ph.opn (pre ++ [l]) l' post (by rw [hf]; simp)) hk'

end Go.Proofs.YtoihipolfdhhnaaGreatDoor
