/- Part of the lift: an abstract walk of the program's code, proved sound, and what it shows of this program. -/
import Derived.Test.YtkehoabgejdpgaaBvTy
namespace Go.Bv
open Go

-- knots whose outcome is laid down plainly
theorem NCall.atN {P : Program} {f : FuncId} {args : List AV} {H H' H'' : List Blk} {r r' : AV} {next : AV → List Blk → Prop} (h : ACalls P f args H r H') (er : r = r') (eH : H' = H'') (hn : next r' H'') : NCall P f args H next := by
  subst er eH; exact ⟨r, H', h, hn⟩
theorem NCall.frzN {P : Program} {f : FuncId} {args args' : List AV} {H H'' : List Blk} {r : AV} {next : AV → List Blk → Prop} (id : Nat) (h : ACalls P f args' [] r []) (hl : LentAs H (· = id) args args') (ha : args'.all AV.noOwn = true) (hr : r.shT (H.set id .dead).length = r) (eH : H.set id .dead = H'') (hn : next r H'') : NCall P f args H next := by
  subst eH; exact NCall.frz id h hl ha hr hn
theorem NCall.frz2N {P : Program} {f : FuncId} {args args' args'' : List AV} {H H'' : List Blk} {r : AV} {next : AV → List Blk → Prop} (i j : Nat) (h : ACalls P f args'' [] r []) (hl : LentAs H (· = i) args args') (hl' : LentAs (H.set i .dead) (· = j) args' args'') (ha : args''.all AV.noOwn = true)
    (hr : r.shT ((H.set i .dead).set j .dead).length = r) (eH : (H.set i .dead).set j .dead = H'') (hn : next r H'') : NCall P f args H next := by
  subst eH
  refine ⟨r, (H.set i .dead).set j .dead, ACalls.freeze i (ACalls.freeze j ?_ hl') hl, hn⟩
  have := h.frame ha ((H.set i .dead).set j .dead)
  rw [hr] at this; simpa using this
-- several rows become lists for good
mutual
theorem Lent.split {H : List Blk} {i : Nat} {r : List Nat} : ∀ {a a'' : AV}, Lent H (· ∈ i :: r) a a'' → ∃ a', Lent H (· = i) a a' ∧ Lent (H.set i .dead) (· ∈ r) a' a''
  | _, _, .same a => ⟨a, .same a, .same a⟩
  | _, _, @Lent.own _ _ id off len kk sh es l hL hid hk hle hl => by
    by_cases h : id = i
    · exact ⟨_, .own h hid hk hle hl, .same _⟩
    · refine ⟨_, .same _, .own ((List.mem_cons.1 hL).resolve_left h) ?_ hk hle hl⟩
      rw [List.getElem?_set_ne (fun e => h e.symm)]; exact hid
  | _, _, .agg h => by
    obtain ⟨l, h1, h2⟩ := LentAs.split h
    exact ⟨_, .agg h1, .agg h2⟩
theorem LentAs.split {H : List Blk} {i : Nat} {r : List Nat} : ∀ {a a'' : List AV}, LentAs H (· ∈ i :: r) a a'' → ∃ a', LentAs H (· = i) a a' ∧ LentAs (H.set i .dead) (· ∈ r) a' a''
  | _, _, .nil => ⟨[], .nil, .nil⟩
  | _, _, .cons h hs => by
    obtain ⟨x, h1, h2⟩ := Lent.split h
    obtain ⟨l, h3, h4⟩ := LentAs.split hs
    exact ⟨_, .cons h1 h3, .cons h2 h4⟩
end
mutual
theorem Lent.none {H : List Blk} : ∀ {a a' : AV}, Lent H (· ∈ ([] : List Nat)) a a' → a = a'
  | _, _, .same a => rfl
  | _, _, .own hL _ _ _ _ => nomatch hL
  | _, _, .agg h => by rw [LentAs.none h]
theorem LentAs.none {H : List Blk} : ∀ {a a' : List AV}, LentAs H (· ∈ ([] : List Nat)) a a' → a = a'
  | _, _, .nil => rfl
  | _, _, .cons h hs => by rw [Lent.none h, LentAs.none hs]
end
def killAll : List Blk → List Nat → List Blk
  | H, [] => H
  | H, i :: r => killAll (H.set i .dead) r
theorem ACalls.freezeAll {P : Program} {f : FuncId} {r : AV} {H' : List Blk} : ∀ (ids : List Nat) {H : List Blk} {args args' : List AV}, ACalls P f args' (killAll H ids) r H' → LentAs H (· ∈ ids) args args' → ACalls P f args H r H'
  | [], _, _, _, h, hl => by rw [LentAs.none hl]; exact h
  | i :: q, _, _, _, h, hl => by
    obtain ⟨a, h1, h2⟩ := LentAs.split hl
    exact ACalls.freeze i (ACalls.freezeAll q h h2) h1
theorem NCall.frzAllN {P : Program} {f : FuncId} {args args' : List AV} {H H'' : List Blk} {r : AV} {next : AV → List Blk → Prop} (ids : List Nat) (h : ACalls P f args' [] r []) (hl : LentAs H (· ∈ ids) args args') (ha : args'.all AV.noOwn = true)
    (hr : r.shT (killAll H ids).length = r) (eH : killAll H ids = H'') (hn : next r H'') : NCall P f args H next := by
  subst eH
  refine ⟨r, killAll H ids, ACalls.freezeAll ids ?_ hl, hn⟩
  have := h.frame ha (killAll H ids)
  rw [hr] at this; simpa using this
theorem NApp.enddN {H H'' : List Blk} {id off len : Nat} {kk : RK} {sh : Sh} {es xs es' : List AV} {bytes n l : Nat} {next : AV → List Blk → Prop} (h0 : off = 0) (h1 : len = es.length) (hb : (es.length + xs.length) * bytes ≤ 2 ^ 46)
    (en : H.length = n) (ee : es ++ xs = es') (el : (es ++ xs).length = l) (eH : H.set id .dead ++ [.row kk sh es'] = H'') (hn : next (.own n 0 l) H'') : NApp H id off len kk sh es xs bytes next := by
  subst en ee el eH; exact .endd h0 h1 hb hn
theorem NApp.inplN {H H'' : List Blk} {id off len : Nat} {kk : RK} {sh : Sh} {es xs es' : List AV} {bytes l : Nat} {next : AV → List Blk → Prop} (h1 : off + len + xs.length ≤ es.length) (el : len + xs.length = l)
    (ee : es.take (off + len) ++ (xs ++ es.drop (off + len + xs.length)) = es') (eH : H.set id (.row kk sh es') = H'') (hn : next (.own id off l) H'') : NApp H id off len kk sh es xs bytes next := by
  subst ee el eH; exact .inpl h1 hn

end Go.Bv
