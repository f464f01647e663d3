/-
  (*Disk).Write: what lies behind it.
-/
import Derived.Test.YtideokbaenkijaaSRoom
namespace Go.Proofs.Ytideokbaenkijaa
open Go.RowKit Go.Maps

/-- append(out, l...) of bytes. -/
theorem app_bytesn {w : World} {ops : Array Oper} {rest : List Oper} {o : Oper} {a : Act} {Q : Exit → Act → World → Prop} (hgd : o.guard = none) (s x : Operand)
    (ho : o.op = .call { callee := .builtin .append, args := #[s, x], argTypes := #[25, 25] })
    {base n cap m cm : Nat} {A B : Option Addr} {xs ys : List Int} (hs : a.eval s = .slice A n cap) (hown : OwnB w base A n cap xs)
    (hx : a.eval x = .slice B m cm) (hB : B = none → cm = 0) (hy : RdB w B m ys) (hbig : n + m ≤ 100000000) (hbase : base ≤ w.heap.size)
    (h : ∀ A' cap' w', OwnB w' base A' (n + m) cap' (xs ++ ys) → Only (fun k => A = some ⟨k, 0, none⟩) w w' → (∀ g, A' = some ⟨g, 0, none⟩ → A = some ⟨g, 0, none⟩ ∨ w.heap.size ≤ g) → (A' = none → A = none) →
      wpList Try.prog ops Q rest (a.put o.dst (.slice A' (n + m) cap')) w') : wpList Try.prog ops Q (o :: rest) a w := by
  obtain ⟨i0, hi, hz0, hz1, hz2⟩ := info_parts infoByte
  exact append_all hgd s x 25 ho i0 _ 1 Try.underlying25 hi hz0 hz1 hz2 rfl (by omega) encB_len encB_one hs hown hx hB hy (by omega) (by unfold maxLen; omega) hbase h
/-- append of one write. -/
theorem app_write {w : World} {ops : Array Oper} {rest : List Oper} {o : Oper} {a : Act} {Q : Exit → Act → World → Prop} (hgd : o.guard = none) (s x : Operand)
    (ho : o.op = .call { callee := .builtin .append, args := #[s, x], argTypes := #[74, 74] }) (c : Nat × Nat)
    {base n cap nb : Nat} {A : Option Addr} {xs : List (Nat × Nat)} (hs : a.eval s = .slice A n cap) (hown : OwnW w base A n cap xs) (hnb : nb = w.heap.size) (hx : a.eval x = .slice (some ⟨nb, 0, none⟩) 1 1) (hn : n ≤ 1000000) (hbase : base ≤ w.heap.size)
    (h : ∀ g cap' w', OwnW w' base (some ⟨g, 0, none⟩) (n + 1) cap' (xs ++ [c]) → Only (fun k => A = some ⟨k, 0, none⟩) w w' → (A = some ⟨g, 0, none⟩ ∨ w.heap.size < g) → g < w'.heap.size →
      wpList Try.prog ops Q rest (a.put o.dst (.slice (some ⟨g, 0, none⟩) (n + 1) cap')) w') : wpList Try.prog ops Q (o :: rest) a (w.alloc (.cells #[.pointer (some ⟨c.1, 0, none⟩), .int .i64 c.2] 86)) := by
  obtain ⟨i0, hi, hz0, hz1, hz2⟩ := info_parts infoWrite
  subst hnb
  have hb : Below w.heap.size w (w.alloc (.cells #[.pointer (some ⟨c.1, 0, none⟩), .int .i64 c.2] 86)) := (Below.refl _ _).alloc (Nat.le_refl _) _
  refine append_one hgd s x 74 ho i0 _ 16 Try.underlying74 hi hz0 hz1 hz2 rfl (by omega) encW_len (c := c) hs (hown.below hb) hx (fun j u hj => ?_) (encW_one c) (by omega) (by unfold maxLen; omega) (Nat.le_trans hbase hb.size) ?_
  · rw [World.cell?_alloc_new]; simpa [encW] using hj
  · intro g cap' w' h1 h2 h3 h4
    refine h g cap' w' h1 ((hb.only _).trans h2) (h3.imp id fun h3 => ?_) h4
    simp at h3; omega

/-- S, and whatever is new. -/
def Plus (S : Nat → Prop) (n : Nat) (k : Nat) : Prop := S k ∨ n ≤ k
theorem lies_data {S : Nat → Prop} {w w1 : World} {bd bm lc m cap' : Nat} {LA A' : Option Addr} {h : Nat → Option Addr × Nat} {M : DataW Unit} {D : DiskD} (k : Lies S w bd bm LA lc h M D) (hi : D.files.Pairwise fun a b => a.id ≠ b.id) {f : FileD} (hf : f ∈ D.files) {ys : List Int} (hm : m = ys.length)
    (hown : OwnB w1 0 A' (f.xs.length + m) cap' (f.xs ++ ys)) (hon : Only (fun k => (h f.id).1 = some ⟨k, 0, none⟩) w w1) (hA : ∀ g, A' = some ⟨g, 0, none⟩ → (h f.id).1 = some ⟨g, 0, none⟩ ∨ w.heap.size ≤ g) :
    Lies (Plus S w.heap.size) (w1.setCell ⟨f.id, 0, none⟩ (.slice A' (f.xs.length + m) cap')) bd bm LA lc (fun k => if k = f.id then (A', cap') else h k) M { D with files := updD f.id (addF ys) D.files } ∧ Only S w (w1.setCell ⟨f.id, 0, none⟩ (.slice A' (f.xs.length + m) cap')) := by
  have hfa := k.files.at_ f hf
  have hne : ¬ (h f.id).1 = some ⟨f.id, 0, none⟩ := fun e => by
    have := hfa.own
    rw [e] at this
    exact own_ne this hfa.head (by decide) rfl
  have hhead := hon.keep hfa.head hne
  have hset := only_setCell w1 ⟨f.id, 0, none⟩ (.slice A' (f.xs.length + m) cap')
  have hits : Only (Its f.id (h f.id).1) w (w1.setCell ⟨f.id, 0, none⟩ (.slice A' (f.xs.length + m) cap')) := (hon.mono fun k _ hk => .inr hk).trans (hset.mono fun k _ hk => .inl hk)
  have hlen : (addF ys f).xs.length = f.xs.length + m := by
    show (f.xs ++ ys).length = _
    rw [List.length_append, hm]
  have hnew : FileAt (w1.setCell ⟨f.id, 0, none⟩ (.slice A' (f.xs.length + m) cap')) (addF ys f) A' cap' := by
    refine ⟨?_, ?_⟩
    · rw [hlen]
      exact heap_setCell_same _ f.id 0 _ _ _ hhead
    · rw [hlen]
      exact hown.only hset fun g hg e => by
        rw [hg] at hown
        exact own_ne hown hhead (by decide) e.symm
  refine ⟨⟨k.core.file hfa hits, k.files.upd hi hf (addF_keeps ys).id hnew hits hA, k.reads.upd f.id (addF_keeps ys), fun j hj => .inl (k.mine j hj), fun q hq => ?_⟩, hits.mono fun j _ hj => ?_⟩
  · obtain ⟨p, hp, rfl⟩ := mem_updD hq
    rw [(addF_keeps ys).id']
    refine ⟨.inl (k.ours p hp).1, fun g hg => ?_⟩
    by_cases e : p.id = f.id
    · rw [if_pos e] at hg
      rcases hA g hg with hg | hg
      · exact .inl ((k.ours f hf).2 g hg)
      · exact .inr hg
    · rw [if_neg e] at hg
      exact .inl ((k.ours p hp).2 g hg)
  · rcases hj with rfl | hj
    · exact (k.ours f hf).1
    · exact (k.ours f hf).2 j hj
theorem lies_loose {S : Nat → Prop} {w w1 : World} {bd bm lc g cap' : Nat} {LA : Option Addr} {h : Nat → Option Addr × Nat} {M : DataW Unit} {D : DiskD} (k : Lies S w bd bm LA lc h M D) {p : Nat × Nat}
    (hown : OwnW w1 0 (some ⟨g, 0, none⟩) (D.loose.length + 1) cap' (D.loose ++ [p])) (hon : Only (fun k => LA = some ⟨k, 0, none⟩) w w1) (hA : LA = some ⟨g, 0, none⟩ ∨ w.heap.size < g) :
    Lies (Plus S w.heap.size) (w1.setCell ⟨bd, 1, none⟩ (.slice (some ⟨g, 0, none⟩) (D.loose.length + 1) cap')) bd bm (some ⟨g, 0, none⟩) cap' h M { D with loose := D.loose ++ [p] } ∧ Only S w (w1.setCell ⟨bd, 1, none⟩ (.slice (some ⟨g, 0, none⟩) (D.loose.length + 1) cap')) := by
  have hne : ¬ LA = some ⟨bd, 0, none⟩ := fun e => by
    have := k.core.own
    rw [e] at this
    exact own_ne this k.core.head (by decide) rfl
  have hhead := hon.keep k.core.head hne
  have hset := only_setCell w1 ⟨bd, 1, none⟩ (.slice (some ⟨g, 0, none⟩) (D.loose.length + 1) cap')
  have hmine : Only (Mine bd bm LA) w (w1.setCell ⟨bd, 1, none⟩ (.slice (some ⟨g, 0, none⟩) (D.loose.length + 1) cap')) := (hon.mono fun k _ hk => .inr (.inr hk)).trans (hset.mono fun k _ hk => .inl hk)
  have hlen : (D.loose ++ [p]).length = D.loose.length + 1 := by simp
  refine ⟨⟨⟨?_, ?_, ?_⟩, k.files.mine k.core hmine, k.reads, fun j hj => ?_, fun f hf => ⟨.inl (k.ours f hf).1, fun r hr => .inl ((k.ours f hf).2 r hr)⟩⟩, hmine.mono fun j _ hj => k.mine j hj⟩
  · rw [hlen]
    exact heap_setCell_same _ bd 1 _ _ _ hhead
  · rw [hlen]
    exact hown.only hset fun r hr e => own_ne (by injection hr with hr; injection hr with hr; rw [hr] at hown; exact hown) hhead (by decide) e.symm
  · refine map_only (map_only k.core.map hon fun e => ?_) hset (map_ne k.core.map k.core.head).symm
    have := k.core.own
    rw [e] at this
    exact own_ne_map this k.core.map rfl
  · rcases hj with rfl | rfl | hj
    · exact .inl (k.mine _ (.inl rfl))
    · exact .inl (k.mine _ (.inr (.inl rfl)))
    · injection hj with hj
      injection hj with hj
      subst hj
      rcases hA with e | e
      · exact .inl (k.mine _ (.inr (.inr e)))
      · exact .inr (Nat.le_of_lt e)
theorem lies_put {S : Nat → Prop} {w w2 : World} {bd bm lc n : Nat} {LA : Option Addr} {h : Nat → Option Addr × Nat} {M : DataW Unit} {D : DiskD} (k : Lies S w bd bm LA lc h M D) {name : ByteArray} (hn : ∀ q ∈ D.files, q.name ≠ name)
    (hown : w2.ownsMap Try.prog 9 ptrE bm n (M.put (keyS name) (.lit (.int .i64 w.heap.size)))) (hon : Only (fun k => k = bm) (w.alloc (.cells #[.slice none 0 0, .int .i64 0, .bool false] 84)) w2) :
    Lies (Plus S w.heap.size) w2 bd bm LA lc (fun k => if k = w.heap.size then (none, 0) else h k) (M.put (keyS name) (.lit (.int .i64 w.heap.size))) (D.put name w.heap.size) ∧ Only S w w2 := by
  have hb : Below w.heap.size w (w.alloc (.cells #[.slice none 0 0, .int .i64 0, .bool false] 84)) := (Below.refl _ _).alloc (Nat.le_refl _) _
  have hcore1 := k.core.below hb
  have hm : Only (Mine bd bm LA) (w.alloc (.cells #[.slice none 0 0, .int .i64 0, .bool false] 84)) w2 := hon.mono fun j _ hj => .inr (.inl hj)
  have hfiles := (k.files.only (hb.only fun _ => False) (fun _ _ h => h) (fun _ _ _ _ h => h)).mine hcore1 hm
  have hlt : ∀ q ∈ D.files, q.id ≠ w.heap.size := fun q hq e => by have := (k.files.at_ q hq).lt; omega
  have hbm : bm < w.heap.size := k.core.map.lt
  have hnew : FileAt w2 ⟨name, w.heap.size, [], 0, false⟩ none 0 :=
    ⟨hon.keep (heap_alloc_new _ _) (fun e : w.heap.size = bm => by omega), Own.nil _ _ _ _ _⟩
  refine ⟨⟨hcore1.turn hon hown, ⟨fun q hq => ?_, fun q hq p hp hne r hr => ?_⟩, k.reads.put k.core.tidy (f := ⟨name, w.heap.size, [], 0, false⟩) hn, fun j hj => .inl (k.mine j hj), fun q hq => ?_⟩, ?_⟩
  · rcases List.mem_append.1 hq with hq | hq
    · rw [if_neg (hlt q hq)]
      exact hfiles.at_ q hq
    · rw [List.mem_singleton.1 hq, if_pos rfl]
      exact hnew
  · rcases List.mem_append.1 hq with hq | hq
    · rw [if_neg (hlt q hq)] at hr
      rcases List.mem_append.1 hp with hp | hp
      · rw [if_neg (hlt p hp)]
        exact k.files.apart q hq p hp hne r hr
      · rw [List.mem_singleton.1 hp, if_pos rfl]
        intro e; cases e
    · rw [List.mem_singleton.1 hq, if_pos rfl] at hr
      cases hr
  · rcases List.mem_append.1 hq with hq | hq
    · rw [if_neg (hlt q hq)]
      exact ⟨.inl (k.ours q hq).1, fun g hg => .inl ((k.ours q hq).2 g hg)⟩
    · rw [List.mem_singleton.1 hq, if_pos rfl]
      exact ⟨.inr (Nat.le_refl _), fun g hg => by cases hg⟩
  · exact (hb.only S).trans (hon.mono fun j _ hj => by rw [hj]; exact k.mine _ (.inr (.inl rfl)))
/-- A map's block holds no cell. -/
theorem rd_turn {w w' : World} {bm n m : Nat} {A : Option Addr} {xs : List Int} {M : DataW Unit} (h : RdB w A n xs) (hm : w.ownsMap Try.prog 9 ptrE bm m M) (ho : Only (fun k => k = bm) w w') : RdB w' A n xs :=
  ⟨h.len, fun i c hc => by
    obtain ⟨b, off, h1, h2, h3⟩ := h.at_ i c hc
    refine ⟨b, off, h1, Nat.lt_of_lt_of_le h2 ho.size, fun j v hv => ho.cell (h3 j v hv) ?_⟩
    rintro rfl
    obtain ⟨es, clock, hb, _⟩ := hm
    have := h3 j v hv
    simp [World.cell?, hb] at this⟩
theorem lies_put' {S : Nat → Prop} {w w2 : World} {bd bm lc n : Nat} {LA : Option Addr} {h : Nat → Option Addr × Nat} {M : DataW Unit} {D : DiskD} (k : Lies S w bd bm LA lc h M D) {name : ByteArray} (hn : ∀ q ∈ D.files, q.name ≠ name)
    (hown : w2.ownsMap Try.prog 9 ptrE bm n (M.put (keyS name) (.lit (.int .i64 w.heap.size)))) (hon : Only (fun k => k = bm) (w.alloc (.cells #[.slice none 0 0, .int .i64 0, .bool false] 84)) w2) :
    ∃ f h', f = (⟨name, w.heap.size, [], 0, false⟩ : FileD) ∧ f ∈ (D.put name w.heap.size).files ∧ h' w.heap.size = (none, 0) ∧ Lies (Plus S w.heap.size) w2 bd bm LA lc h' (M.put (keyS name) (.lit (.int .i64 w.heap.size))) (D.put name w.heap.size) ∧ Only S w w2 :=
  ⟨_, _, rfl, by simp [DiskD.put], if_pos rfl, lies_put k hn hown hon⟩
theorem plus_plus3 {S : Nat → Prop} {a b d c : Nat} (h1 : c ≤ a) (h2 : c ≤ b) (h3 : c ≤ d) : ∀ k, Plus (Plus (Plus S a) b) d k → Plus S c k := fun k hk => by
  rcases hk with ((hk | hk) | hk) | hk
  · exact .inl hk
  · exact .inr (by omega)
  · exact .inr (by omega)
  · exact .inr (by omega)
theorem plus_plus {S : Nat → Prop} {a b c : Nat} (h1 : c ≤ a) (h2 : c ≤ b) : ∀ k, Plus (Plus S a) b k → Plus S c k := fun k hk => by
  rcases hk with (hk | hk) | hk
  · exact .inl hk
  · exact .inr (by omega)
  · exact .inr (by omega)
end Go.Proofs.Ytideokbaenkijaa
