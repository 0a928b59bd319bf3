/-
  Proves that append, copy and len of the abstract machine stand for the model's. Each theorem states its own conditions; there are no others.
-/
import Derived.Test.YtdanfdimpcldiaaGreatDoorAm12
import Derived.Deep.AppendSrc
import Derived.Deep.Upon
set_option linter.unusedSimpArgs false
set_option linter.unusedVariables false
set_option linter.unusedVariables false
set_option linter.unusedSectionVars false
namespace Go.Am
variable [Base]
variable {E : Env} {ι : Inj} {h h' : AHeap} {w : World} {rg : T AV} {a : Act} {o : Oper} {r : ORes}

/-- An owned object gives its block over to a new one; the block may turn. -/
theorem HRel.move {w' : World} (hH : HRel ι h w) {i : Nat} {L L' : Loc} {o o' : AObj} (hi : ι i = some L) (ho : h.get i = some o) (how : o.owned = true) (hb : L'.b = L.b) (hg : o'.gone = false)
    (hO : ORel (ι.add h.next L') o' L' w') (hsz : w'.heap.size = w.heap.size) (hother : ∀ b, b ≠ L.b → w'.heap[b]? = w.heap[b]?) (hos : w'.os = w.os) (ht : w'.tape = w.tape) (hout : w'.output = w.output) :
    Ext ι h w (ι.add h.next L') ((h.set i .dead).alloc o').2 w' := by
  have hin : i < h.next := hH.lt i L hi
  have hle : ι.le (ι.add h.next L') := fun k Lk hk => by
    rw [Inj.add_other]; exact hk
    have := hH.lt k Lk hk; omega
  have hget : ∀ k, ((h.set i .dead).alloc o').2.get k = if k = h.next then some o' else if k = i then some .dead else h.get k := fun k => by
    rw [AHeap.get_alloc, AHeap.get_set]; simp only [AHeap.next_set]
    by_cases h1 : k = h.next
    · simp [h1]
    · by_cases h2 : k = i <;> simp [h1, h2]
  refine ⟨⟨?_, ?_, ?_, ?_, fun k Lk hk => by
    by_cases e : k = h.next
    · subst e; rw [Inj.add_same] at hk; cases hk; rw [hb, hsz]; exact hH.bnd i L hi
    · rw [Inj.add_other _ _ e] at hk; rw [hsz]; exact hH.bnd k Lk hk, ⟨by rw [hsz]; exact hH.base.size, fun b hb' => (hother b (by have := hH.base.own i L o hi ho how; omega)).trans (hH.base.old b hb'), hos.trans hH.base.os, fun k Lk ok hk hok hwk => by
    by_cases e : k = h.next
    · subst e; rw [Inj.add_same] at hk; cases hk; rw [hb]; exact hH.base.own i L o hi ho how
    · rw [Inj.add_other _ _ e] at hk
      rw [hget, if_neg e] at hok
      by_cases e2 : k = i
      · rw [if_pos e2] at hok; cases hok; simp [AObj.owned] at hwk
      · rw [if_neg e2] at hok; exact hH.base.own k Lk ok hk hok hwk⟩⟩, ?_, ?_, by simp, by omega, ?_, hos, ht, hout, fun k Lk hk => by
    by_cases e : k = h.next
    · subst e; rw [Inj.add_same] at hk; cases hk; exact .inr (.inr ⟨i, L, o, hi, ho, how, hb.symm⟩)
    · rw [Inj.add_other _ _ e] at hk; exact .inl hk⟩
  · intro k Lk hk
    by_cases e : k = h.next
    · subst e; rw [Inj.add_same] at hk; cases hk
      exact ⟨o', by simp [hget], hO⟩
    · rw [Inj.add_other _ _ e] at hk
      by_cases e2 : k = i
      · subst e2; exact ⟨.dead, by simp [hget, e], True.intro⟩
      · obtain ⟨ok, h1, h2⟩ := hH.obj k Lk hk
        refine ⟨ok, by simp [hget, e, e2, h1], ?_⟩
        by_cases hd : ok.gone = true
        · cases ok <;> simp [AObj.gone] at hd; exact True.intro
        · exact (h2.mono hle).block (hother _ fun eb => hH.dis i k L Lk o ok (fun e' => e2 e'.symm) hi hk ho h1 how (by simpa using hd) eb.symm)
  · intro k j Lk Lj ok oj hkj hk hj hok hoj hwn hnd
    rw [hget] at hok hoj
    by_cases e : k = h.next
    · subst e; rw [Inj.add_same] at hk; cases hk
      have e' : j ≠ h.next := fun e => hkj e.symm
      rw [Inj.add_other _ _ e'] at hj
      rw [if_neg e'] at hoj
      by_cases e2 : j = i
      · rw [if_pos e2] at hoj; cases hoj; simp [AObj.gone] at hnd
      · rw [if_neg e2] at hoj
        rw [hb]; exact hH.dis i j L Lj o oj (fun e' => e2 e'.symm) hi hj ho hoj how hnd
    · rw [Inj.add_other _ _ e] at hk
      rw [if_neg e] at hok
      by_cases e2 : k = i
      · rw [if_pos e2] at hok; cases hok; simp [AObj.owned] at hwn
      · rw [if_neg e2] at hok
        by_cases e' : j = h.next
        · subst e'; rw [Inj.add_same] at hj; cases hj
          rw [hb]
          exact fun eb => hH.dis i k L Lk o ok (fun e' => e2 e'.symm) hi hk ho hok how (by cases ok <;> simp_all [AObj.owned, AObj.gone]) eb.symm
        · rw [Inj.add_other _ _ e'] at hj
          rw [if_neg e'] at hoj
          by_cases e3 : j = i
          · rw [if_pos e3] at hoj; cases hoj; simp [AObj.gone] at hnd
          · rw [if_neg e3] at hoj
            exact hH.dis k j Lk Lj ok oj hkj hk hj hok hoj hwn hnd
  · intro k Lk hk
    by_cases e : k = h.next
    · subst e; simp
    · rw [Inj.add_other _ _ e] at hk
      have := hH.lt k Lk hk; simp; omega
  · intro k hk
    simp at hk
    rw [hget, if_neg (by omega), if_neg (by omega)]
    exact hH.fresh k (by omega)
  · intro k hk; rw [Inj.add_other]; omega
  · intro k hk hn
    have : k ≠ i := fun e => by subst e; rw [hi] at hn; cases hn
    rw [hget, if_neg (by omega), if_neg this]
  · intro b hbs hn
    have hbl : b ≠ L.b := fun e => hn ⟨i, L, o, hi, ho, how, e.symm⟩
    refine ⟨hother b hbl, ?_⟩
    rintro ⟨k, Lk, ok, hk, hok, hwk, hbk⟩
    rw [hget] at hok
    by_cases e : k = h.next
    · subst e; rw [Inj.add_same] at hk; cases hk; exact hbl (by rw [← hbk, hb])
    · rw [Inj.add_other _ _ e] at hk
      rw [if_neg e] at hok
      by_cases e2 : k = i
      · rw [if_pos e2] at hok; cases hok; simp [AObj.owned] at hwk
      · rw [if_neg e2] at hok
        exact hn ⟨k, Lk, ok, hk, hok, hwk, hbk⟩

theorem src_run (hH : HRel ι h w) {es n : Nat} {x : AV} {v : Value} {new : List AV} (hx : VRel ι x v) (hs : srcA h es x = some (n, new)) {tx : TypeId} {P : Program}
    (hk : (∃ e', P.underlying tx = some (.slice e')) ∨ P.underlying tx = some .string) :
    ∃ ys : List Value, VsRel ι new ys ∧ new.length = n * es ∧ Src P es tx v n ys w := by
  unfold srcA at hs
  split at hs
  · simp at hs; obtain ⟨rfl, rfl⟩ := hs
    cases hx
    exact ⟨[], VsRel.nil _, by simp, hk, fun _ => rfl, rfl, rfl, by simp, by simp⟩
  · rename_i i off n'
    split at hs
    · rename_i cs hl
      split at hs
      · rename_i hsc
        simp at hs
        obtain ⟨rfl, rfl⟩ := hs
        have one : ∀ ys : List Value, VsRel ι cs ys → ∀ u ∈ ys, u.oneCell' = true := fun ys hv u hu => by
          obtain ⟨j, hj, rfl⟩ := List.getElem_of_mem hu
          have hj' : j < cs.length := by rw [hv.1]; exact hj
          rw [(hv.2 j cs[j] ys[j] (by simp [hj']) (by simp [hj])).scalar]
          exact (List.all_eq_true.1 hsc) _ (List.getElem_mem hj')
        rcases hx.slice_inv with ⟨L, cap, hL, hcap, ht, rfl⟩ | ⟨L, ad, hL, ht, rfl, rfl⟩
        · obtain ⟨hn, ys, hrel, hcell⟩ := loadCells_sound hH hL hl
          have hyl : ys.length = n' * es := by rw [← hrel.1]; exact hn
          exact ⟨ys, hrel, hn, hk, fun _ => rfl, run_firstCells_some w es n' _ n' cap ys hyl hcell,
            run_firstCells_some w.drew es n' _ n' cap ys hyl (by simpa using hcell), hyl, one ys hrel⟩
        · have : cs = [] := by
            obtain ⟨hn, _⟩ := loadCells_sound hH hL hl
            simp at hn; exact hn
          subst this
          refine ⟨[], VsRel.nil _, by simp, hk, fun _ => rfl, ?_, ?_, by simp, by simp⟩
          · exact run_firstCells_some w es 0 _ 0 0 [] (by simp) (by simp)
          · exact run_firstCells_some w.drew es 0 _ 0 0 [] (by simp) (by simp)
      · simp at hs
    · simp at hs
  · rename_i l
    split at hs
    · rename_i hes
      subst hes
      simp at hs; obtain ⟨rfl, rfl⟩ := hs
      rw [hx.str_inv]
      have hsz : (⟨l.toArray⟩ : ByteArray).size = l.length := by simp [ByteArray.size]
      have hcells : ∀ w1 : World, (Builtin.firstCells 1 l.length (.string ⟨l.toArray⟩)).run P w1 = .ok (byteCells ⟨l.toArray⟩).toArray w1 := fun w1 => by
        have := firstCells_string (P := P) ⟨l.toArray⟩ w1
        rw [hsz] at this; exact this
      refine ⟨byteCells ⟨l.toArray⟩, ⟨by simp [byteCells], fun i x y hx hy => ?_⟩, by simp, hk, fun _ => by simp [Builtin.lenOf, ByteArray.size], hcells _, hcells _, ?_, ?_⟩
      · simp [byteCells] at hx hy
        obtain ⟨b, hb, rfl⟩ := hx
        obtain ⟨b', hb', rfl⟩ := hy
        rw [hb] at hb'; cases hb'; exact .int _ _
      · simp [byteCells]
      · intro u hu
        obtain ⟨_, _, rfl⟩ := List.mem_map.1 hu
        rfl
    · simp at hs
  · simp at hs

theorem append_sound (hE : E.Ok) (hH : HRel ι h w) {t tx ty : TypeId} {s x z : AV} {u v : Value} (hs : VRel ι s u) (hx : VRel ι x v)
    (hk : (∃ e', E.P.underlying tx = some (.slice e')) ∨ E.P.underlying tx = some .string) (ha : appendA E h t s x = some (z, h')) :
    ∃ y w' ι', (Builtin.append_ #[t, tx] ty #[u, v]).run E.P w = .ok y w' ∧ VRel ι' z y ∧ Ext ι h w ι' h' w' := by
  unfold appendA at ha
  split at ha
  · rename_i e hu
    have hu' := hE.und t _ hu
    split at ha
    · rename_i es by_ zl hsz hby hz
      obtain ⟨i, hi, his⟩ := hE.siz e _ hsz
      obtain ⟨i2, hi2, hib⟩ := hE.byt e _ hby
      obtain ⟨i3, zv, hi3, hzv, _⟩ := hE.zer e _ hz
      rw [hi] at hi2 hi3; cases hi2; cases hi3
      have hroomy : roomy = 1073741824 := rfl
      split at ha
      · simp at ha
      rename_i hzl
      simp at hzl
      obtain ⟨hza, _⟩ := ‹_ ∧ (_ ∧ _)›
      have hzs : zv.cells.size = es + 1 := by
        have := toAVs_length hza
        simp at this; omega
      split at ha
      · simp at ha
      · rename_i n new hsrc
        obtain ⟨news, hnews, hnl, hS⟩ := src_run hH hx hsrc hk
        have his' : i.size = es + 1 := his
        rw [← his'] at hS
        have fits : ∀ need old : Nat, old < need → ¬ (roomy < need * (by_ + 1)) → ((need : Nat) : Int) ≤ 9223372036854775807 ∧ Builtin.nextslicecap need old * i.bytes ≤ 281474976710656 := fun need old h1 h2 => by
          have h3 : need ≤ need * (by_ + 1) := Nat.le_mul_of_pos_right _ (by omega)
          have h4 : need * i.bytes ≤ need * (by_ + 1) := Nat.mul_le_mul_left _ hib
          exact ⟨by omega, growslice_fits h1 (by omega)⟩
        -- a new row
        have newrow : ∀ (h0 : AHeap) (base : Option Addr) (len cap : Nat) (olds : List AV) (old' : List Value), Ext ι h w ι h0 w → h0.next = h.next → VsRel ι olds old' →
            (Builtin.firstCells i.size len (.slice base len cap)).run E.P w.drew = .ok old'.toArray w.drew → cap < len + n → ¬ (roomy < (len + n) * (by_ + 1)) → olds.length = len * (es + 1) →
            ∃ y w' ι', (Builtin.append_ #[t, tx] ty #[.slice base len cap, v]).run E.P w = .ok y w' ∧ VRel ι' (.slice (some (h.next, 0)) (len + n)) y ∧
              Ext ι h w ι' (h0.alloc (.cells true (es + 1) (olds ++ new))).2 w' := fun h0 base len cap olds old' hext hnx hrel hold hcap hroom holen => by
          obtain ⟨h63, hfit⟩ := fits _ cap hcap hroom
          have hrun := run_append_grow_src (P := E.P) w t tx ty e i zv hu' hi hzv base len cap old' hold v n news hS hcap h63 hfit
          have hge := grownCap_ge w (len + n) cap e
          have hall := hrel.append hnews
          have hcl : ((old' ++ news).toArray ++ Builtin.zeroCells zv.cells (grownCap w (len + n) cap e - (len + n))).size = grownCap w (len + n) cap e * (es + 1) := by
            have h1 := hall.1
            simp [Builtin.zeroCells, hzs] at h1 ⊢
            rw [← h1, holen, hnl, ← Nat.add_mul, ← Nat.add_mul]
            congr 1; omega
          refine ⟨_, _, ι.add h0.next _, hrun, ?_, hext.trans (new_cells (w0 := w.drew) hext.rel rfl rfl rfl rfl true (es + 1) e ?_ ?_)⟩
          · rw [← hnx]
            refine .slice (off := 0) (Inj.add_same _ _ _) hge fun _ _ => ?_
            simp only [hcl]; omega
          · intro j y hy
            obtain ⟨q, hq, hr⟩ := hall.get hy
            refine ⟨q, ?_, hr⟩
            have hj : j < (old' ++ news).length := (List.getElem?_eq_some_iff.1 hq).1
            rw [Array.getElem?_append_left (by simpa using hj)]
            simpa using hq
          · have h1 := hall.1
            rw [hcl]; simp [holen, hnl, ← Nat.add_mul]
            exact Nat.mul_le_mul_right _ hge
        split at ha
        · -- a nil slice
          obtain ⟨-, rfl⟩ := hs.slice_nil_inv
          split at ha
          · simp at ha
          rename_i hroom
          split at ha
          · rename_i hn; subst hn
            simp at ha; obtain ⟨rfl, rfl⟩ := ha
            have : news = [] := List.eq_nil_of_length_eq_zero (by rw [← hnews.1, hnl]; simp)
            subst this
            exact ⟨_, _, _, run_append_nothing w t tx ty e i hu' hi none 0 0 (by omega) v hS, .sliceNil, Ext.refl hH⟩
          · rename_i hn
            simp at ha; obtain ⟨rfl, rfl⟩ := ha
            have := newrow h none 0 0 [] [] (Ext.refl hH) rfl (VsRel.nil _) (run_firstCells_none w.drew _ _ _ _) (by omega) (by simpa using hroom) (by simp)
            simpa using this
        · rename_i k off len
          split at ha
          · simp at ha
          rename_i hroom
          split at ha
          · rename_i es' cs ho
            split at ha
            · simp at ha
            rename_i hes'
            simp at hes'; subst hes'
            -- what the slice is
            have hsl : ∃ L base cap, ι k = some L ∧ u = .slice (some base) len cap ∧ len ≤ cap ∧ L.base + off + cap * (es + 1) = L.top ∧ L.es = es + 1 ∧ L.rw = true ∧
                (0 < cap → base = ⟨L.b, L.base + off, none⟩) := by
              rcases hs.slice_inv with ⟨L, cap, hL, hcap, ht, rfl⟩ | ⟨L, ad, hL, ht, rfl, rfl⟩
              · obtain ⟨hrw, hes, _⟩ := hH.cells hL ho
                have := ht hrw (by omega)
                exact ⟨L, _, cap, hL, rfl, hcap, by rw [hes] at this; exact this, hes, hrw, fun _ => rfl⟩
              · obtain ⟨hrw, hes, _⟩ := hH.cells hL ho
                have := ht hrw (by omega)
                exact ⟨L, ad, 0, hL, rfl, by omega, by simpa using this, hes, hrw, fun h => by omega⟩
            obtain ⟨L, base, cap, hL, rfl, hcap, htop, hLes, hLrw, hbase⟩ := hsl
            obtain ⟨_, _, hfit, c, ce, fz, hb, hfz, hcs⟩ := hH.cells hL ho
            obtain ⟨rfl, hct⟩ := hfz rfl
            split at ha
            · rename_i hn; subst hn
              simp at ha; obtain ⟨rfl, rfl⟩ := ha
              have : news = [] := List.eq_nil_of_length_eq_zero (by rw [← hnews.1, hnl]; simp)
              subst this
              exact ⟨_, _, _, run_append_nothing w t tx ty e i hu' hi (some base) len cap hcap v hS, hs, Ext.refl hH⟩
            rename_i hn
            -- storing behind the length
            have hlenN : news.length = n * (es + 1) := by rw [← hnews.1, hnl]
            have inplace : ∀ w', len + n ≤ cap → (storeCells ⟨L.b, L.base + (off + len * (es + 1)), none⟩ news).run E.P w = .ok () w' → (Builtin.append_ #[t, tx] ty #[.slice (some base) len cap, v]).run E.P w =
                .ok (.slice (some ⟨L.b, L.base + off, none⟩) (len + n) cap) w' := fun w' hroom' hst => by
              rw [hbase (by omega)]
              have hin : ∀ j, j < news.length → L.base + off + len * i.size + j < c.size := fun j hj => by
                rw [← hct, ← htop, his']
                have h1 : (len + n) * (es + 1) ≤ cap * (es + 1) := Nat.mul_le_mul_right _ hroom'
                rw [Nat.add_mul] at h1
                omega
              have hc1 : ∀ j, j < news.length → (w.cell? ⟨L.b, L.base + off + len * i.size + j, none⟩).isSome = true := fun j hj => by
                simp [World.cell?, hb, hin j hj]
              have hc2 : ∀ j, j < news.length → w.frozen? ⟨L.b, L.base + off + len * i.size + j, none⟩ = false := fun j hj => by
                simp [World.frozen?, hb]
              have h1 := run_append_room_src w t tx ty e i hu' hi L.b (L.base + off) len cap v n news hS hroom' hc1 hc2
              have h2 := run_storeCells_cells (P := E.P) L.b (L.base + off + len * i.size) news 0 w (by simpa using hc1) (by simpa using hc2) hS.one
              rw [his'] at h1 h2
              simp only [Nat.add_zero, Nat.add_assoc] at h1 h2 hst
              rw [h2] at hst; cases hst
              rw [← h1]
            split at ha
            · -- within what is known
              rename_i hin
              have hroom' : len + n ≤ cap := by
                have h1 : (len + n) * (es + 1) ≤ cap * (es + 1) := by omega
                exact Nat.le_of_mul_le_mul_right h1 (by omega)
              split at ha
              · rename_i h2 hst
                simp at ha; obtain ⟨rfl, rfl⟩ := ha
                obtain ⟨w', hrun, hext⟩ := storeCells_sound hH hL hst hnews E.P
                exact ⟨_, w', ι, inplace w' hroom' hrun, .slice hL hroom' fun _ _ => by rw [hLes]; exact htop, hext⟩
              · simp at ha
            · split at ha
              · rename_i hnin hlen
                simp at ha; obtain ⟨rfl, rfl⟩ := ha
                have hk' : k < h.next := hH.lt k L hL
                have holds : ∃ old' : List Value, VsRel ι ((cs.drop off).take (len * (es + 1))) old' ∧ old'.length = len * (es + 1) ∧
                    ∀ j y, old'[j]? = some y → c[L.base + off + j]? = some y := by
                  have hcsz : ∀ j, j < cs.length → L.base + j < c.size := fun j hj => by omega
                  refine ⟨(c.toList.drop (L.base + off)).take (len * (es + 1)), ⟨?_, fun j x y hx hy => ?_⟩, ?_, fun j y hy => ?_⟩
                  · simp; omega
                  · rw [List.getElem?_take] at hx hy
                    split at hx
                    · rw [List.getElem?_drop] at hx
                      rename_i hj; rw [if_pos hj, List.getElem?_drop] at hy
                      obtain ⟨q, hq, hr⟩ := hcs _ x hx
                      rw [← Array.getElem?_toList, ← Nat.add_assoc, hy] at hq; cases hq
                      exact hr
                    · simp at hx
                  · simp; omega
                  · rw [List.getElem?_take] at hy
                    split at hy
                    · rw [List.getElem?_drop] at hy; simpa using hy
                    · simp at hy
                obtain ⟨old', hrel, holen, hocell⟩ := holds
                by_cases hroom' : len + n ≤ cap
                · -- there is room behind it in the array
                  have hbound : L.base + (off + len * (es + 1)) + 0 + news.length ≤ c.size := by
                    rw [← hct, ← htop, hlenN]
                    have h1 : (len + n) * (es + 1) ≤ cap * (es + 1) := Nat.mul_le_mul_right _ hroom'
                    rw [Nat.add_mul] at h1
                    omega
                  have hst := run_storeCells_at E.P L.b (L.base + (off + len * (es + 1))) ce news 0 c w hb hbound hS.one
                  simp only [Nat.add_zero] at hst hbound
                  refine ⟨_, _, ι.add h.next ⟨L.b, L.base + off, L.top, es + 1, true⟩, inplace _ hroom' hst, ?_, ?_⟩
                  · exact .slice (off := 0) (Inj.add_same _ _ _) hroom' fun _ _ => by simpa using htop
                  · refine hH.move hL ho rfl rfl rfl ?_ (by simp [World.setRow]) (fun b hne => ?_) rfl rfl rfl
                    · have hle : ι.le (ι.add h.next ⟨L.b, L.base + off, L.top, es + 1, true⟩) := fun i Li hi => by
                        rw [Inj.add_other]; exact hi
                        have := hH.lt i Li hi; omega
                      refine ⟨rfl, rfl, ?_, _, ce, (0, 0), setRow_heap w L.b c _ ce _ hb, fun _ => ⟨rfl, ?_⟩, fun j x hx => ?_⟩
                      · have h1 := hrel.1; have h2 := hnews.1
                        simp only [List.length_append, h1, h2, holen, hlenN]
                        omega
                      · simp; omega
                      · rw [List.getElem?_append, hrel.1] at hx
                        simp only [List.getElem?_toArray]
                        rw [List.append_assoc, List.getElem?_append]
                        have hmin' : (List.take (L.base + (off + len * (es + 1))) c.toList).length = L.base + (off + len * (es + 1)) := by simp; omega
                        rw [hmin']
                        split at hx
                        · rename_i hj
                          rw [holen] at hj
                          obtain ⟨y, hy, hr⟩ := hrel.get hx
                          rw [if_pos (by omega), List.getElem?_take, if_pos (by omega)]
                          have := hocell j y hy
                          exact ⟨y, by simpa using this, hr.mono hle⟩
                        · rename_i hj
                          rw [holen] at hx hj
                          obtain ⟨y, hy, hr⟩ := hnews.get hx
                          have hjl := (List.getElem?_eq_some_iff.1 hy).1
                          rw [if_neg (by omega), List.getElem?_append, if_pos (by omega)]
                          exact ⟨y, by rw [← hy]; congr 1; omega, hr.mono hle⟩
                    · simp only [World.setRow, Array.getElem?_modify]
                      rw [if_neg (fun e => hne e.symm)]
                · -- a new array
                  have hdead : Ext ι h w ι (h.set k .dead) w := hH.turn hL ho rfl True.intro rfl (fun _ _ => rfl) rfl rfl rfl
                  have hfc : (Builtin.firstCells i.size len (.slice (some base) len cap)).run E.P w.drew = .ok old'.toArray w.drew := by
                    rw [his']
                    refine run_firstCells_some w.drew (es + 1) len base len cap old' holen fun j y hy => ?_
                    have hj := (List.getElem?_eq_some_iff.1 hy).1
                    have : 0 < cap := by
                      rcases Nat.eq_zero_or_pos len with h0 | h0
                      · rw [h0] at holen; simp at holen; simp [holen] at hy
                      · omega
                    rw [hbase this, addr_add]
                    have h1 := hocell j y hy
                    have hb' : w.drew.heap[L.b]? = some (Obj.cells c ce) := hb
                    simp only [World.cell?, hb', h1]
                    simp
                  exact newrow (h.set k .dead) (some base) len cap _ old' hdead rfl hrel hfc (by omega) hroom (by rw [hrel.1, holen])
              · simp at ha
          · simp at ha
        · simp at ha
    · simp at ha
  · simp at ha
end Go.Am
