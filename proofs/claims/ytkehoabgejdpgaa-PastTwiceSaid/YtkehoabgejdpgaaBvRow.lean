/- Part of the lift: an abstract walk of the program's code, proved sound, and what it shows of this program. -/
import Derived.Test.YtkehoabgejdpgaaBvDraw
import Derived.WalkKit
import Derived.ProofKit
import Derived.OpenShut
import Derived.ShutString
import Derived.ChangeOld
import Derived.SizedLaws
import Derived.Deep.Slices
namespace Go.Bv
open Go Go.ChangeShapes Go.WideShapes Go.RowKit Go.Deep

/-- The cells of a value, typed. -/
def TyC (P : Program) : Nat → TypeId → List AV → Prop
  | 0, _, _ => False
  | n + 1, t, as => match P.underlying t with
    | some .bool => ∃ b, as = [.bool b]
    | some (.int k) => ∃ z, as = [.int k z] ∧ k.min ≤ z ∧ z ≤ k.max
    | some .string => ∃ s : List UInt8, as = [.str s] ∧ s.length ≤ reachBytes
    | some (.slice e) => ∃ l, as = [.list (shOf P e) l] ∧ l.length * P.bytesOf e ≤ reachBytes ∧ ∀ x ∈ l, ∃ xs, TyC P n e xs ∧ x = match shOf P e with
        | .leaf => xs.headD .undef
        | .agg _ => .agg xs
    | some (.struct fs) => as.length = P.cellsOf t ∧ ∀ f ∈ fs.toList, TyC P n f.type ((as.drop f.offset).take (P.cellsOf f.type))
    | _ => False

def mkA (sh : Sh) (xs : List AV) : AV := match sh with
  | .leaf => xs.headD .undef
  | .agg _ => .agg xs
def mkV (sh : Sh) (xs : List Value) : Value := match sh with
  | .leaf => xs.headD undef
  | .agg _ => .agg xs.toArray

def contig (P : Program) : List Field → Nat → Nat → Bool
  | [], o, tot => o == tot
  | f :: r, o, tot => f.offset == o && contig P r (o + P.cellsOf f.type) tot
def shFits (P : Program) (t : TypeId) : Bool := match shOf P t with
  | .leaf => P.cellsOf t == 1
  | .agg n => n == P.cellsOf t && Nat.ble 1 n
def tyOk (P : Program) : Nat → TypeId → Bool
  | 0, _ => false
  | n + 1, t => shFits P t && match P.underlying t with
    | some .bool | some (.int _) | some .string => true
    | some (.slice e) => tyOk P n e
    | some (.struct fs) => contig P fs.toList 0 (P.cellsOf t) && fs.toList.all fun f => tyOk P n f.type
    | _ => false

structure CR (w : World) (G : Nat → Prop) (cs : List Value) (as : List AV) : Prop where
  len : cs.length = as.length
  rd : ∀ (i : Nat) (h : i < cs.length) (h' : i < as.length), RP w G cs[i] as[i] ∧ cs[i].oneCell' = true

theorem CR.append {w : World} {G : Nat → Prop} {cs cs' : List Value} {as as' : List AV} (h : CR w G cs as) (h' : CR w G cs' as') : CR w G (cs ++ cs') (as ++ as') := by
  refine ⟨by simp [h.len, h'.len], fun i hi hi' => ?_⟩
  rcases Nat.lt_or_ge i cs.length with hlt | hge
  · have h2 : i < as.length := by rw [← h.len]; exact hlt
    simp only [List.getElem_append_left hlt, List.getElem_append_left h2]
    exact h.rd i hlt h2
  · have h2 : as.length ≤ i := by rw [← h.len]; exact hge
    simp only [List.getElem_append_right hge, List.getElem_append_right h2, h.len]
    simp only [List.length_append] at hi hi'
    exact h'.rd _ (by have := h.len; omega) (by omega)

theorem CR.val {w : World} {G : Nat → Prop} {cs : List Value} {as : List AV} (h : CR w G cs as) {sh : Sh} (hl : as.length = sh.size) : RP w G (mkV sh cs) (mkA sh as) ∧ okSh (mkV sh cs) sh ∧ ∀ j : Nat, (mkV sh cs).cells[j]? = cs[j]? := by
  have hlen := h.len
  cases sh with
  | leaf =>
    simp only [Sh.size] at hl
    obtain ⟨a, rfl⟩ := List.length_eq_one_iff.1 hl
    obtain ⟨v, rfl⟩ := List.length_eq_one_iff.1 (hlen.trans hl)
    obtain ⟨h1, h2⟩ := h.rd 0 (by simp) (by simp)
    exact ⟨h1, h2, fun j => by simp only [mkV, List.headD_cons]; have h2 : v.oneCell' = true := h2; rw [cells_one h2]; simp⟩
  | agg n =>
    simp only [Sh.size] at hl
    refine ⟨.agg cs.toArray as (by simpa using hlen) (fun i hi => ?_) (fun i x hx => ?_), ⟨cs.toArray, rfl, by simp; omega, fun i x hx => ?_⟩, fun j => by simp [mkV, Value.cells]⟩
    · have h2 : i < cs.length := by omega
      have := (h.rd i h2 hi).1
      simpa [Array.getD_eq_getD_getElem?, h2] using this
    all_goals
      have hx : cs[i]? = some x := by simpa using hx
      obtain ⟨hi, rfl⟩ := List.getElem?_eq_some_iff.1 hx
      exact (h.rd i hi (by omega)).2

theorem shFits_size {P : Program} {t : TypeId} (h : shFits P t = true) : (shOf P t).size = P.cellsOf t ∧ 0 < P.cellsOf t := by
  unfold shFits at h
  split at h
  · rename_i hs; rw [hs]; simp only [Sh.size]; simp at h; omega
  · rename_i n hs; rw [hs]; simp only [Sh.size]; simp [Nat.ble_eq] at h; omega

theorem fields_open {P : Program} {w : World} {G : Nat → Prop} {n : Nat} {cs : List Value} : ∀ (fs : List Field) (o tot : Nat), (∀ f ∈ fs, ∃ as, CR w G ((cs.drop f.offset).take (P.cellsOf f.type)) as ∧ TyC P n f.type as) → contig P fs o tot = true → tot ≤ cs.length →
    o ≤ tot ∧ ∃ as, CR w G ((cs.drop o).take (tot - o)) as ∧ ∀ f ∈ fs, o ≤ f.offset ∧ TyC P n f.type ((as.drop (f.offset - o)).take (P.cellsOf f.type))
  | [], o, tot, _, hc, ht => by
    simp only [contig, beq_iff_eq] at hc
    subst hc
    exact ⟨Nat.le_refl _, [], ⟨by simp, fun i hi => by simp at hi⟩, fun f hf => by cases hf⟩
  | f :: r, o, tot, h, hc, ht => by
    simp only [contig, Bool.and_eq_true, beq_iff_eq] at hc
    obtain ⟨rfl, hc⟩ := hc
    obtain ⟨hle, as', hcr', hty'⟩ := fields_open r _ tot (fun g hg => h g (by simp [hg])) hc ht
    obtain ⟨as, hcr, hty⟩ := h f (by simp)
    have hlen : as.length = P.cellsOf f.type := by
      rw [← hcr.len]; simp; omega
    refine ⟨by omega, as ++ as', ?_, fun g hg => ?_⟩
    · have := hcr.append hcr'
      rwa [show (cs.drop f.offset).take (P.cellsOf f.type) ++ (cs.drop (f.offset + P.cellsOf f.type)).take (tot - (f.offset + P.cellsOf f.type)) = (cs.drop f.offset).take (tot - f.offset) by
        rw [← List.drop_drop, ← List.take_append_drop (P.cellsOf f.type) ((cs.drop f.offset).take (tot - f.offset)), List.take_take, List.drop_take, Nat.min_eq_left (by omega)]
        congr 2; omega] at this
    · rcases List.mem_cons.1 hg with rfl | hg
      · refine ⟨Nat.le_refl _, ?_⟩
        simp only [Nat.sub_self, List.drop_zero]
        rw [← hlen, List.take_left']
        · exact hty
        · rfl
      · obtain ⟨h1, h2⟩ := hty' g hg
        refine ⟨by omega, ?_⟩
        rw [show g.offset - f.offset = as.length + (g.offset - (f.offset + P.cellsOf f.type)) by omega, ← List.drop_drop, List.drop_left' rfl]
        exact h2

theorem weightsAll_mem {H : Type} {P : Program} {e : TypeId} : ∀ {l : List (DataW H)} {d : DataW H}, d ∈ l → ∀ n ∈ d.weights P e, n ∈ DataW.weightsAll P e l
  | x :: r, d, hd, n, hn => by
    simp only [DataW.weightsAll, List.mem_append]
    rcases List.mem_cons.1 hd with rfl | h
    · exact .inl hn
    · exact .inr (weightsAll_mem h n hn)

theorem mapM_some {α β : Type} {f : α → Option β} : ∀ {l : List α} {r : List β}, l.mapM f = some r → r.length = l.length ∧ ∀ (i : Nat) (h : i < l.length) (h' : i < r.length), f l[i] = some r[i]
  | [], r, h => by
    simp at h; subst h
    exact ⟨rfl, fun i h => by simp at h⟩
  | x :: l, r, h => by
    rw [List.mapM_cons] at h
    obtain ⟨y, hy, h⟩ := Option.bind_eq_some_iff.1 h
    obtain ⟨ys, hys, h⟩ := Option.bind_eq_some_iff.1 h
    cases h
    obtain ⟨h1, h2⟩ := mapM_some hys
    refine ⟨by simp [h1], fun i hi hi' => ?_⟩
    cases i with
    | zero => exact hy
    | succ i => exact h2 i (by simpa using hi) (by simpa using hi')

section
variable {H : Type} {enc : TypeId × Value → H} {P : Program} {w : World}

theorem open_C : ∀ (n fuel : Nat) (t : TypeId) (cs : List Value) (x : DataW H × List MemPlace), DataW.trod enc P w 0 (fun _ => true) true fuel t cs = some x → tyOk P n t = true → (∀ k ∈ x.1.weights P t, k ≤ reachBytes) →
    ∃ as, CR w (fun b => b < w.heap.size) cs as ∧ TyC P n t as
  | 0, _, _, _, _, _, h, _ => by simp [tyOk] at h
  | n + 1, 0, _, _, _, h, _, _ => by simp [DataW.trod] at h
  | n + 1, fuel + 1, t, cs, x, h, hok, hw => by
    simp only [tyOk, Bool.and_eq_true] at hok
    obtain ⟨hfit, hok⟩ := hok
    have one : ∀ {v : Value} {a : AV}, RP w (fun b => b < w.heap.size) v a → v.oneCell' = true → CR w (fun b => b < w.heap.size) [v] [a] := fun h1 h2 => ⟨rfl, fun i hi hi' => by
      have : i = 0 := by simpa using hi
      subst this; exact ⟨h1, h2⟩⟩
    cases ht : P.underlying t with
    | none => rw [ht] at hok; cases hok
    | some d =>
      rw [ht] at hok
      cases d with
      | bool =>
        simp only [DataW.trod, ht] at h
        split at h <;> simp_all
        exact ⟨_, one (.bool _) rfl, by simp only [TyC, ht]; exact ⟨_, rfl⟩⟩
      | int k =>
        simp only [DataW.trod, ht] at h
        split at h <;> simp_all
        rename_i k' z _
        obtain ⟨⟨rfl, hwf⟩, _⟩ := h
        simp only [Lit.wf, Bool.and_eq_true, decide_eq_true_eq] at hwf
        exact ⟨_, one (.int _ z) rfl, by simp only [TyC, ht]; exact ⟨_, rfl, hwf⟩⟩
      | string =>
        simp only [DataW.trod, ht] at h
        split at h <;> simp_all
        rename_i s
        obtain ⟨_, rfl⟩ := h
        exact ⟨_, one (.str s) rfl, by simp only [TyC, ht]; exact ⟨_, rfl, by simpa [DataW.weights] using hw⟩⟩
      | slice e =>
        simp only at hok
        have hfe := shFits_size (P := P) (t := e) (by cases n with
          | zero => simp [tyOk] at hok
          | succ n => simp only [tyOk, Bool.and_eq_true] at hok; exact hok.1)
        rcases open_slice ht h with ⟨rfl, rfl⟩ | ⟨a, len, cap, m, n', D, Pl, rfl, _, hle, hmax, hm, rfl, hel⟩
        · exact ⟨_, one (.list0 (shOf P e) none 0) rfl, by simp only [TyC, ht]; exact ⟨_, rfl, by simp, fun x hx => by cases hx⟩⟩
        · have hm : m = cap := by simpa using hm
          subst hm
          simp only [DataW.weights, ht] at hw
          have hb : len * P.bytesOf e ≤ reachBytes := by
            have := hw _ (List.mem_cons_self ..)
            simp only [List.length_map, List.length_range] at this
            exact Nat.le_trans (Nat.mul_le_mul_right _ (by omega)) this
          have hx : ∀ i, i < len → ∃ as cs', w.cells? 0 (a.add (i * P.cellsOf e)) (P.cellsOf e) = some cs' ∧ CR w (fun b => b < w.heap.size) cs' as ∧ TyC P n e as := by
            intro i hi
            obtain ⟨cs', h1, h2⟩ := hel i (by omega)
            obtain ⟨as, h3, h4⟩ := open_C n n' e cs' _ h2 hok (fun k hk => hw k (List.mem_cons_of_mem _ (List.mem_append_left _ (weightsAll_mem (List.mem_map.2 ⟨i, List.mem_range.2 hi, rfl⟩) k hk))))
            exact ⟨as, cs', h1, h3, h4⟩
          rcases Nat.eq_zero_or_pos len with h0 | hpos
          · subst h0
            exact ⟨_, one (.list0 (shOf P e) (some a) m) rfl, by simp only [TyC, ht]; exact ⟨_, rfl, by simp, fun x hx => by cases hx⟩⟩
          · have hcell : ∀ i j, i < len → j < P.cellsOf e → ∃ as cs', CR w (fun b => b < w.heap.size) cs' as ∧ cs'.length = P.cellsOf e ∧ w.cell? ((a.add (i * P.cellsOf e)).add j) = cs'[j]? := by
              intro i j hi hj
              obtain ⟨as, cs', h1, h2, _⟩ := hx i hi
              obtain ⟨_, hl, hc⟩ := World.cells?_some h1
              exact ⟨as, cs', h2, hl, by rw [hc j hj]⟩
            have hspot : a = ⟨a.block, a.off, none⟩ ∧ a.block < w.heap.size := by
              obtain ⟨as, cs', _, hl, hc⟩ := hcell 0 0 hpos hfe.2
              simp only [Nat.zero_mul, Addr.add, if_true] at hc
              rw [List.getElem?_eq_getElem (by omega)] at hc
              unfold World.cell? at hc
              split at hc
              · rename_i c T fr hb
                split at hc
                · cases hc
                · rename_i hs
                  refine ⟨?_, (Array.getElem?_eq_some_iff.1 hb).1⟩
                  obtain ⟨ab, ao, asp⟩ := a
                  cases asp with
                  | none => rfl
                  | some _ => exact absurd rfl hs
              · cases hc
            obtain ⟨ha, hlt⟩ := hspot
            obtain ⟨ab, ao, asp⟩ := a
            simp only [Addr.mk.injEq, true_and] at ha
            subst ha
            obtain ⟨F, hF⟩ := choose_lt (α := List AV × List Value) (p := fun i x => w.cells? 0 ((⟨ab, ao, none⟩ : Addr).add (i * P.cellsOf e)) (P.cellsOf e) = some x.2 ∧ CR w (fun b => b < w.heap.size) x.2 x.1 ∧ TyC P n e x.1) (fun i hi => by
              obtain ⟨as, cs', h1, h2, h3⟩ := hx i hi
              exact ⟨(as, cs'), h1, h2, h3⟩)
            have hlenF : ∀ i, i < len → (F i).2.length = P.cellsOf e := fun i hi => (World.cells?_some (hF i hi).1).2.1
            have hval : ∀ i, i < len → RP w (fun b => b < w.heap.size) (mkV (shOf P e) (F i).2) (mkA (shOf P e) (F i).1) ∧ okSh (mkV (shOf P e) (F i).2) (shOf P e) ∧ ∀ j : Nat, (mkV (shOf P e) (F i).2).cells[j]? = (F i).2[j]? :=
              fun i hi => (hF i hi).2.1.val (by rw [← (hF i hi).2.1.len, hlenF i hi, hfe.1])
            have hlist := RP.list (w := w) (G := fun b => b < w.heap.size) (shOf P e) ab ao m ((List.range len).map fun i => mkA (shOf P e) (F i).1) (fun i => mkV (shOf P e) (F i).2) (by simpa using hle) hlt
              (fun i hi => by simp only [List.getElem_map, List.getElem_range]; exact (hval i (by simpa using hi)).1)
              (fun i hi => (hval i (by simpa using hi)).2.1)
              (fun i j hi hj => by
                simp only [List.length_map, List.length_range] at hi
                rw [(hval i hi).2.2 j]
                obtain ⟨_, hl, hc⟩ := World.cells?_some (hF i hi).1
                rw [← hc j (by rw [← hfe.1]; exact hj), hfe.1, addr_add, addr_add])
            rw [show ((List.range len).map fun i => mkA (shOf P e) (F i).1).length = len by simp] at hlist
            refine ⟨_, one hlist rfl, ?_⟩
            simp only [TyC, ht]
            refine ⟨_, rfl, by simpa using hb, fun x hx => ?_⟩
            obtain ⟨i, hi, rfl⟩ := List.mem_map.1 hx
            exact ⟨(F i).1, (hF i (List.mem_range.1 hi)).2.2, rfl⟩
      | struct fs =>
        simp only [Bool.and_eq_true, List.all_eq_true] at hok
        obtain ⟨hct, hok⟩ := hok
        simp only [DataW.trod, ht] at h
        split at h
        · rename_i hlen
          obtain ⟨xs, hxs, rfl⟩ := Option.map_eq_some_iff.1 h
          obtain ⟨hxl, hxi⟩ := mapM_some hxs
          simp only [DataW.weights, ht] at hw
          obtain ⟨_, as, hcr, hty⟩ := fields_open (w := w) (G := fun b => b < w.heap.size) (n := n) (cs := cs) fs.toList 0 (P.cellsOf t) (fun f hf => by
            obtain ⟨i, hi, rfl⟩ := List.getElem_of_mem hf
            refine open_C n fuel _ _ _ (hxi i hi (by omega)) (hok _ hf) (fun k hk => hw k ?_)
            exact DataW.weights_mem_each (j := i) (t := (fs.toList[i]).type) (d := (xs[i]'(by omega)).1) (by simp at hi; simp [hi]) (by simp [show i < xs.length by omega]) k hk) hct (by omega)
          simp only [Nat.sub_zero, List.drop_zero] at hcr hty
          rw [List.take_of_length_le (by omega)] at hcr
          refine ⟨as, hcr, ?_⟩
          simp only [TyC, ht]
          exact ⟨by rw [← hcr.len]; exact hlen, fun f hf => (hty f hf).2⟩
        · cases h
      | _ => simp at hok

/-- Arguments, typed. -/
def TyVs (P : Program) (n : Nat) : List TypeId → List AV → Prop
  | [], [] => True
  | t :: ts, a :: as => (∃ xs, TyC P n t xs ∧ a = mkA (shOf P t) xs) ∧ TyVs P n ts as
  | _, _ => False

theorem open_V {n : Nat} {t : TypeId} {v : Value} {d : DataW H} {ps : List MemPlace} {b0 : Nat} (h : DataW.Trod enc P w 0 (fun _ => true) true t v d ps) (hv : Value.okWide P w .any b0 t v) (hok : tyOk P n t = true) (hw : ∀ k ∈ d.weights P t, k ≤ reachBytes) :
    ∃ xs, RP w (fun b => b < w.heap.size) v (mkA (shOf P t) xs) ∧ TyC P n t xs := by
  obtain ⟨fuel, h⟩ := h
  obtain ⟨as, hcr, hty⟩ := open_C n fuel t _ _ h hok hw
  have hfit : shFits P t = true := by
    cases n with
    | zero => simp [tyOk] at hok
    | succ n => simp only [tyOk, Bool.and_eq_true] at hok; exact hok.1
  have hlen : v.cells.toList.length = (shOf P t).size ∧ v = mkV (shOf P t) v.cells.toList := by
    cases n with
    | zero => simp [tyOk] at hok
    | succ n =>
      simp only [tyOk, Bool.and_eq_true] at hok
      have hok := hok.2
      cases ht : P.underlying t with
      | none => rw [ht] at hok; cases hok
      | some d =>
        rw [ht] at hok
        have hsh : shOf P t = if isAggD d then .agg (P.cellsOf t) else .leaf := by unfold shOf; rw [ht]
        cases d with
        | bool => obtain ⟨b, rfl⟩ := okWide_bool ht hv; rw [hsh]; exact ⟨rfl, rfl⟩
        | int k => obtain ⟨b, rfl⟩ := okWide_int ht hv; rw [hsh]; exact ⟨rfl, rfl⟩
        | string => obtain ⟨b, rfl⟩ := okWide_string ht hv; rw [hsh]; exact ⟨rfl, rfl⟩
        | slice e => obtain ⟨a, l, c, rfl⟩ := okWide_slice ht hv; rw [hsh]; exact ⟨rfl, rfl⟩
        | struct fs =>
          obtain ⟨cs, rfl, hc⟩ := okWide_struct ht hv
          rw [hsh]
          exact ⟨by simpa [Value.cells, isAggD, Sh.size] using hc, by simp [Value.cells, isAggD, mkV]⟩
        | _ => simp at hok
  obtain ⟨h1, _, _⟩ := hcr.val (sh := shOf P t) (by rw [← hcr.len]; exact hlen.1)
  rw [← hlen.2] at h1
  exact ⟨as, h1, hty⟩

theorem open_args {n b0 : Nat} : ∀ (ts : List TypeId) (vs : List Value) (ds : List (DataW H)) (ps : List MemPlace), DataW.TrodAll enc P w 0 (fun _ => true) true ts vs ds ps →
    (∀ (j : Nat) t v, ts[j]? = some t → vs[j]? = some v → Value.okWide P w .any b0 t v) → (∀ t ∈ ts, tyOk P n t = true) → (∀ k ∈ DataW.weightsEach P ts ds, k ≤ reachBytes) →
    ∃ as, vs.length = as.length ∧ (∀ (i : Nat) (h : i < vs.length) (h' : i < as.length), RP w (fun b => b < w.heap.size) vs[i] as[i]) ∧ TyVs P n ts as ∧ ds.length = ts.length
  | [], vs, ds, ps, h, _, _, _ => by
    obtain ⟨rfl, rfl, rfl⟩ := trodAll_nil h
    exact ⟨[], rfl, fun i h => by simp at h, trivial, rfl⟩
  | t :: ts, vs, ds, ps, h, hv, hok, hw => by
    obtain ⟨v, vs, d, ds, p, q, rfl, rfl, rfl, hd, hr⟩ := trodAll_cons h
    simp only [DataW.weightsEach] at hw
    obtain ⟨xs, h1, h2⟩ := open_V hd (hv 0 t v rfl rfl) (hok t (by simp)) (fun k hk => hw k (List.mem_append_left _ hk))
    obtain ⟨as, h3, h4, h5, h6⟩ := open_args ts vs ds q hr (fun j t v h h' => hv (j + 1) t v (by simpa using h) (by simpa using h')) (fun t ht => hok t (by simp [ht])) (fun k hk => hw k (List.mem_append_right _ hk))
    refine ⟨mkA (shOf P t) xs :: as, by simp [h3], fun i hi hi' => ?_, ⟨⟨xs, h2, rfl⟩, h5⟩, by simp [h6]⟩
    cases i with
    | zero => exact h1
    | succ i => exact h4 i (by simpa using hi) (by simpa using hi')

theorem keep_args {w' : World} (hl : laidOutB P = true) (hb : Below w.heap.size w w') : ∀ (ts : List TypeId) (vs : List Value) (ds : List (DataW H)) (ps : List MemPlace), DataW.TrodAll enc P w 0 (fun _ => true) true ts vs ds ps →
    (∀ t ∈ ts, P.readableRec t = true ∧ t < P.types.size) → DataW.TrodAll enc P w' 0 (fun b => decide (b < w.heap.size)) true ts vs ds ps
  | [], vs, ds, ps, h, _ => by
    obtain ⟨rfl, rfl, rfl⟩ := trodAll_nil h
    exact trodAll_mk0
  | t :: ts, vs, ds, ps, h, hok => by
    obtain ⟨v, vs, d, ds, p, q, rfl, rfl, rfl, hd, hr⟩ := trodAll_cons h
    refine ⟨p, q, ?_, keep_args hl hb ts vs ds q hr (fun t ht => hok t (by simp [ht])), rfl⟩
    have hlt : ∀ x ∈ p, x.block < w.heap.size := by obtain ⟨m, hm⟩ := hd; exact DataW.trod_lt m _ _ _ hm
    exact Below.trod hl (hok t (by simp)).1 (hok t (by simp)).2 hd hb hlt

theorem law_lifted {C : Checked} {f : FuncId} {fn : Func} {s : ChangeSpec} {conds : List PathCond} {os : Os} (n : Nat) (started : os.Started) (own : ownKnob C.prog.godebug = none) (hl : laidOutB C.prog = true) (hvs : s.vars = []) (hvt : s.plain.varTypes C.prog = [])
    (noInit : C.prog.inits.idxOf? f = none) (hfn : C.prog.funcs[f]? = some fn)
    (witness : ∃ (w : World) (tape : Tape) (i : Input), w.os = os ∧ (w.forCall tape i).Shaped C.prog ∧ i.vars = [] ∧ Input.okWide C.prog (w.forCall tape i) .any w.heap.size f i ∧
      s.pre6 enc C.prog fn conds false (w.forCall tape i).memory i.args ∧ ({} : Assume).holds C.prog (lone (Frame.enter C.prog f i.args .normal) [] (w.forCall tape i)))
    (tb : TypeId) (hrt : fn.resultTypes = #[tb]) (hb : C.prog.underlying tb = some .bool) (hok : (fn.params.toList.all fun t => tyOk C.prog n t && C.prog.readableRec t && decide (t < C.prog.types.size)) = true)
    (hspec : ∀ ds : List (DataW H), ds.length = fn.params.toList.length → s.fn H ds = { results := [.lit (.bool true)], args := ds })
    (hlaw : ∀ as, TyVs C.prog n fn.params.toList as → ACalls C.prog f as [] (.bool true) []) :
    ReturnsInHanded {} C os f .any (s.pre6 enc C.prog fn conds false) (s.post enc C.prog fn false true false false) := by
  refine returnsInHanded_of_change_sized own started noInit hfn witness ?_
  intro W base args ds gs before hval hW _ hsz _
  have hW' := hW
  obtain ⟨p, q, hA, hV, rfl, _, _⟩ := hW
  rw [hvs] at hV
  obtain ⟨rfl, rfl⟩ := trodVars_none hV
  rw [hvt] at hsz
  simp only [List.append_nil, List.all_eq_true, decide_eq_true_eq] at hsz
  simp only [List.all_eq_true, Bool.and_eq_true, decide_eq_true_eq] at hok
  obtain ⟨as, h1, h2, h3, h4⟩ := open_args (n := n) (b0 := base) _ _ _ _ hA (fun j t v h h' => hval j t v (by simpa using h) (by simpa using h')) (fun t ht => (hok t ht).1.1) hsz
  obtain ⟨_, hcall⟩ := hlaw as h3
  let Cx : Ctx := { w := W, F := fun _ => False, β := fun _ => 0, H := [] }
  have hCx : HRep Cx := {
    inj := fun i j k m h => by simp [Cx] at h
    notF := fun i k h => by simp [Cx] at h
    Flt := fun b h => h.elim
    sz := fun i k sh es h => by simp [Cx] at h
    row := fun i k sh es h => by simp [Cx] at h
    map := fun i es h => by simp [Cx] at h }
  refine (hcall Cx rfl hCx args (by simpa using h1) fun i hi => ?_).mono fun e W' he => ?_
  · have hi' : i < args.toList.length := by omega
    have := h2 i hi' hi
    have hlt : i < args.size := by simpa using hi'
    rw [Array.getD_eq_getD_getElem?, Array.getElem?_eq_getElem hlt, Option.getD_some]
    refine RP.RA (this.mono fun b hb => ⟨⟨hb, fun h => h, ?_⟩, rfl⟩)
    rintro ⟨id, k, hk, _⟩
    simp [Cx] at hk
  · obtain ⟨v, C', rfl, rfl, hH, hE, _, hv⟩ := he
    have hv : v = .bool true := hv.bool
    subst hv
    have bel : Below W.heap.size W C'.w := ⟨hE.os, hE.tape, hE.output, hE.size, fun k hk => hE.keep k hk (fun ⟨id, k, hk, _⟩ => by simp [Cx] at hk)⟩
    refine ⟨_, rfl, ds, [], _, [], p, [], hW', ?_, ?_, ?_, bel.frame _, fun h => by cases h⟩
    · rw [List.append_nil, hspec ds h4, hrt]
      exact trodAll_mk1 (shut_bool hb _)
    · rw [List.append_nil, hspec ds h4]
      exact keep_args hl bel _ _ _ _ hA (fun t ht => ⟨(hok t ht).1.2, (hok t ht).2⟩)
    · rw [List.append_nil, hspec ds h4, hvs]
      rfl
end

end Go.Bv
