/- The engine's state as plain data, what it is in memory, and how that is kept when a part of it is changed. No program is run here. -/
import Derived.Test.YtgomjcnefadenaaGreatDoorF2
namespace Go.Proofs.YtgomjcnefadenaaGreatDoor
open Go Go.RowKit

/-- An instruction. -/
structure I3 where
  op : Int
  a : Int
  w : Int
/-- A word. -/
structure Wrd where
  k : Int
  n : Int
  w : Int
def Wrd.cells (x : Wrd) : List Value := [.int .i64 x.k, .int .i64 x.n, .int .i64 x.w]
/-- A frame, without where it lies. -/
structure LF where
  k : Int
  a : Int
  b : Int
  x : Int
  y : Int
  l : List Int
def Frm.log (f : Frm) : LF := ⟨f.k, f.a, f.b, f.x, f.y, f.l⟩
def LF.at_ (f : LF) (la : Option Addr) (lc : Nat) : Frm := ⟨f.k, f.a, f.b, f.x, f.y, la, lc, f.l⟩

def insCells (i : I3) : List Int := [i.a * 256 + i.op, i.w]
def codeOf (ds : List (List I3)) : List Int := ds.flatten.flatMap insCells
/-- Where each definition ends. -/
def endsFrom : Int → List (List I3) → List Int
  | _, [] => []
  | b, d :: ds => (b + 2 * d.length) :: endsFrom (b + 2 * d.length) ds
def endsOf (ds : List (List I3)) : List Int := endsFrom 0 ds

structure St where
  ds : List (List I3)
  ws : List Wrd
  fs : List LF
  xs : List Int
  df : Int
  on : Int
  nx : Int

/-- The blocks that stay. -/
structure Blks where
  g : Nat
  fr : Nat
  st : Nat
  sk : Nat
  inp : Nat
  tl : Nat
  mm : Nat

/-- Where the rows lie. -/
structure Gh where
  cad : Option Addr
  cc : Nat
  ead : Option Addr
  ec : Nat
  wad : Option Addr
  wc : Nat
  fad : Option Addr
  fc : Nat
  fs : List Frm
  sad : Option Addr
  sc : Nat

def ptr (b : Nat) : Value := .pointer (some ⟨b, 0, none⟩)
def engCells (B : Blks) (s : St) (h : Gh) : Array Value :=
  #[.slice h.cad (codeOf s.ds).length h.cc, .slice h.ead (endsOf s.ds).length h.ec, .slice h.wad s.ws.length h.wc, ptr B.fr, .int .i64 s.df, .int .i64 s.on, .int .i64 s.nx, ptr B.st, ptr B.inp]

def okDs (ds : List (List I3)) : Prop := ds.length ≤ 300 ∧ ∀ d ∈ ds, d.length ≤ 500 ∧ ∀ i ∈ d, 0 ≤ i.op ∧ i.op < 256 ∧ 0 ≤ i.a ∧ i.a ≤ 1000

structure EngG (w : World) (B : Blks) (s : St) (h : Gh) : Prop where
  blk : Blk w B.g 74 (engCells B s h)
  code : Row w 33 1 h.cad (codeOf s.ds).length h.cc (ints (codeOf s.ds))
  ends : Row w 3 1 h.ead (endsOf s.ds).length h.ec (ints (endsOf s.ds))
  words : Row w 35 3 h.wad s.ws.length h.wc (s.ws.flatMap Wrd.cells)
  frs : Frs w B.fr h.fad h.fc h.fs
  log : h.fs.map Frm.log = s.fs
  stb : ∃ mv, Blk w B.st 81 #[ptr B.tl, ptr B.sk, ptr B.mm, mv]
  stk : Stk w B.sk h.sad h.sc s.xs
  cs : ∀ k, inB h.cad k → ¬ inB h.sad k
  lcs : ∀ f ∈ h.fs, ∀ k, inB f.la k → ¬ inB h.cad k ∧ ¬ inB h.sad k
  wds : okDs s.ds
  wws : s.ws.length ≤ 600

/-- All blocks of the engine that it may write. -/
def engF (B : Blks) (h : Gh) (k : Nat) : Prop := k = B.g ∨ inB h.cad k ∨ inB h.ead k ∨ inB h.wad k ∨ frsF B.fr h.fad h.fs k ∨ stkS B.sk h.sad k

/-- The engine at the state s; O: its blocks. -/
def Eng (w : World) (B : Blks) (s : St) (O : Nat → Prop) : Prop := ∃ h, EngG w B s h ∧ ∀ k, engF B h k → O k

/-- From one state to another: the new one, what may have changed, and which blocks are its own now. -/
structure Goes (B : Blks) (w : World) (O : Nat → Prop) (w' : World) (s' : St) : Prop where
  eng : Eng w' B s' (fun k => O k ∨ w.heap.size ≤ k)
  chg : Chg O w w'

theorem Goes.trans {B : Blks} {w w1 w2 : World} {O : Nat → Prop} {s1 s2 : St} (h : Goes B w O w1 s1) (k : Goes B w1 (fun k => O k ∨ w.heap.size ≤ k) w2 s2) : Goes B w O w2 s2 := by
  refine ⟨?_, h.chg.trans' k.chg (fun i hi => hi)⟩
  obtain ⟨g, hg, ho⟩ := k.eng
  refine ⟨g, hg, fun i hi => ?_⟩
  have := h.chg.size
  rcases ho i hi with (h1 | h1) | h1
  · exact .inl h1
  · exact .inr h1
  · exact .inr (by omega)

section
variable {w w' : World} {B : Blks} {s : St} {h : Gh}

theorem Row.neBlk {w : World} {e t : TypeId} {sz n c g : Nat} {ad : Option Addr} {xs : List Value} {cs : Array Value} (h : Row w e sz ad n c xs) (h' : Blk w g t cs) (hne : e ≠ t) {k : Nat} (hk : inB ad k) : k ≠ g := fun e' => row_blk h h' hne (e' ▸ hk)

/-- Nothing of the engine is touched. -/
theorem EngG.chg {S : Nat → Prop} (H : EngG w B s h) (hc : Chg S w w') (hn : ∀ k, engF B h k → ¬ S k) (hst : ¬ S B.st) : EngG w' B s h := by
  obtain ⟨mv, hmv⟩ := H.stb
  exact ⟨H.blk.chg hc (hn _ (.inl rfl)), H.code.chg hc (fun k hk => hn _ (.inr (.inl hk))), H.ends.chg hc (fun k hk => hn _ (.inr (.inr (.inl hk)))), H.words.chg hc (fun k hk => hn _ (.inr (.inr (.inr (.inl hk))))),
    H.frs.chg hc (fun k hk => hn _ (.inr (.inr (.inr (.inr (.inl hk)))))), H.log, ⟨mv, hmv.chg hc hst⟩, H.stk.chg hc (fun k hk => hn _ (.inr (.inr (.inr (.inr (.inr hk)))))), H.cs, H.lcs, H.wds, H.wws⟩
theorem EngG.lt (H : EngG w B s h) : ∀ k, engF B h k → k < w.heap.size := fun k hk => by
  rcases hk with rfl | hk | hk | hk | hk | hk
  · exact H.blk.lt
  · exact H.code.lt hk
  · exact H.ends.lt hk
  · exact H.words.lt hk
  · exact H.frs.lt k hk
  · exact H.stk.lt k hk
theorem EngG.keep (H : EngG w B s h) (hc : Chg none_ w w') : EngG w' B s h := H.chg hc (fun _ _ h => h) (fun h => h)

/-- The stack alone has changed. -/
theorem EngG.stkChg (H : EngG w B s h) {ad : Option Addr} {c : Nat} {xs : List Int} (hs : Stk w' B.sk ad c xs) (hc : Chg (stkS B.sk h.sad) w w') (hat : ∀ k, inB ad k → inB h.sad k ∨ w.heap.size ≤ k) :
    EngG w' B { s with xs := xs } { h with sad := ad, sc := c } := by
  obtain ⟨mv, hmv⟩ := H.stb
  have hr := H.stk.row
  have hb := H.stk.blk
  refine ⟨H.blk.chg hc ?_, H.code.chg hc ?_, H.ends.chg hc ?_, H.words.chg hc ?_, H.frs.chg hc ?_, H.log, ⟨mv, hmv.chg hc ?_⟩, hs, ?_, ?_, H.wds, H.wws⟩
  · rintro (e | hk)
    · exact H.blk.ne hb (by decide) e
    · exact row_blk hr H.blk (by decide) hk
  · rintro k hk (e | hk')
    · exact H.code.neBlk hb (by decide) hk e
    · exact H.cs k hk hk'
  · rintro k hk (e | hk')
    · exact H.ends.neBlk hb (by decide) hk e
    · exact row_far H.ends hr (by decide) hk hk'
  · rintro k hk (e | hk')
    · exact H.words.neBlk hb (by decide) hk e
    · exact row_far H.words hr (by decide) hk hk'
  · rintro k (rfl | hk | ⟨f, hf, hk⟩) (e | hk')
    · exact H.frs.blk.ne hb (by decide) e
    · exact row_blk hr H.frs.blk (by decide) hk'
    · exact H.frs.row.neBlk hb (by decide) hk e
    · exact row_far H.frs.row hr (by decide) hk hk'
    · exact (H.frs.loc f hf).1.neBlk hb (by decide) hk e
    · exact (H.lcs f hf k hk).2 hk'
  · rintro (e | hk')
    · exact hmv.ne hb (by decide) e
    · exact row_blk hr hmv (by decide) hk'
  · intro k hk hk'
    rcases hat k hk' with h1 | h1
    · exact H.cs k hk h1
    · have := H.code.lt hk; omega
  · intro f hf k hk
    refine ⟨(H.lcs f hf k hk).1, fun hk' => ?_⟩
    rcases hat k hk' with h1 | h1
    · exact (H.lcs f hf k hk).2 h1
    · have := (H.frs.loc f hf).1.lt hk; omega

/-- The frames alone have changed. -/
theorem EngG.frsChg (H : EngG w B s h) {S : Nat → Prop} {ad : Option Addr} {c : Nat} {fs : List Frm} (hs : Frs w' B.fr ad c fs) (hc : Chg S w w') (hS : ∀ k, S k → frsF B.fr h.fad h.fs k)
    (hla : ∀ f ∈ fs, ∀ k, inB f.la k → (∃ f' ∈ h.fs, inB f'.la k) ∨ w.heap.size ≤ k) :
    EngG w' B { s with fs := fs.map Frm.log } { h with fad := ad, fc := c, fs := fs } := by
  obtain ⟨mv, hmv⟩ := H.stb
  have hr := H.frs.row
  have hb := H.frs.blk
  refine ⟨H.blk.chg hc ?_, H.code.chg hc ?_, H.ends.chg hc ?_, H.words.chg hc ?_, hs, rfl, ⟨mv, hmv.chg hc ?_⟩, H.stk.chg hc ?_, H.cs, ?_, H.wds, H.wws⟩
  · intro hk
    rcases hS _ hk with e | hk' | ⟨f, hf, hk'⟩
    · exact H.blk.ne hb (by decide) e
    · exact row_blk hr H.blk (by decide) hk'
    · exact row_blk (H.frs.loc f hf).1 H.blk (by decide) hk'
  · intro k hk hk1
    rcases hS _ hk1 with e | hk' | ⟨f, hf, hk'⟩
    · exact H.code.neBlk hb (by decide) hk e
    · exact row_far H.code hr (by decide) hk hk'
    · exact (H.lcs f hf k hk').1 hk
  · intro k hk hk1
    rcases hS _ hk1 with e | hk' | ⟨f, hf, hk'⟩
    · exact H.ends.neBlk hb (by decide) hk e
    · exact row_far H.ends hr (by decide) hk hk'
    · exact row_far H.ends (H.frs.loc f hf).1 (by decide) hk hk'
  · intro k hk hk1
    rcases hS _ hk1 with e | hk' | ⟨f, hf, hk'⟩
    · exact H.words.neBlk hb (by decide) hk e
    · exact row_far H.words hr (by decide) hk hk'
    · exact row_far H.words (H.frs.loc f hf).1 (by decide) hk hk'
  · intro hk1
    rcases hS _ hk1 with e | hk' | ⟨f, hf, hk'⟩
    · exact hmv.ne hb (by decide) e
    · exact row_blk hr hmv (by decide) hk'
    · exact row_blk (H.frs.loc f hf).1 hmv (by decide) hk'
  · rintro k (rfl | hk) hk1
    · rcases hS _ hk1 with e | hk' | ⟨f, hf, hk'⟩
      · exact H.stk.blk.ne hb (by decide) e
      · exact row_blk hr H.stk.blk (by decide) hk'
      · exact row_blk (H.frs.loc f hf).1 H.stk.blk (by decide) hk'
    · rcases hS _ hk1 with e | hk' | ⟨f, hf, hk'⟩
      · exact H.stk.row.neBlk hb (by decide) hk e
      · exact row_far H.stk.row hr (by decide) hk hk'
      · exact (H.lcs f hf k hk').2 hk
  · intro f hf k hk
    rcases hla f hf k hk with ⟨f', hf', hk'⟩ | h1
    · exact H.lcs f' hf' k hk'
    · refine ⟨fun hk' => ?_, fun hk' => ?_⟩
      · have := H.code.lt hk'; omega
      · have := H.stk.row.lt hk'; omega

/-- A number of the engine's own block is set. -/
theorem EngG.setG (H : EngG w B s h) (s' : St) (i : Nat) (u : Value) (hs : s'.ds = s.ds ∧ s'.ws = s.ws ∧ s'.fs = s.fs ∧ s'.xs = s.xs) (hcells : (engCells B s h).setIfInBounds i u = engCells B s' h) : EngG (w.setCell ⟨B.g, i, none⟩ u) B s' h := by
  obtain ⟨mv, hmv⟩ := H.stb
  obtain ⟨ds', ws', fs', xs', df', on', nx'⟩ := s'
  obtain ⟨h1, h2, h3, h4⟩ := hs
  simp only at h1 h2 h3 h4
  subst h1 h2 h3 h4
  have hb := H.blk
  have hc : Chg (fun k => k = B.g) w (w.setCell ⟨B.g, i, none⟩ u) := Chg.set (fun k => k = B.g) w B.g i rfl u
  refine ⟨?_, H.code.chg hc ?_, H.ends.chg hc ?_, H.words.chg hc ?_, H.frs.chg hc ?_, H.log, ⟨mv, hmv.chg hc ?_⟩, H.stk.chg hc ?_, H.cs, H.lcs, H.wds, H.wws⟩
  · rw [← hcells]; exact hb.set_ i u
  · exact fun k hk => H.code.neBlk hb (by decide) hk
  · exact fun k hk => H.ends.neBlk hb (by decide) hk
  · exact fun k hk => H.words.neBlk hb (by decide) hk
  · rintro k (rfl | hk | ⟨f, hf, hk⟩)
    · exact H.frs.blk.ne hb (by decide)
    · exact H.frs.row.neBlk hb (by decide) hk
    · exact (H.frs.loc f hf).1.neBlk hb (by decide) hk
  · exact hmv.ne hb (by decide)
  · rintro k (rfl | hk)
    · exact H.stk.blk.ne hb (by decide)
    · exact H.stk.row.neBlk hb (by decide) hk

theorem EngG.goes_stk {O : Nat → Prop} (H : EngG w B s h) (hO : ∀ k, engF B h k → O k) {ad : Option Addr} {c : Nat} {xs : List Int} (hs : Stk w' B.sk ad c xs) (hc : Chg (stkS B.sk h.sad) w w') (hat : ∀ k, inB ad k → inB h.sad k ∨ w.heap.size ≤ k) :
    Goes B w O w' { s with xs := xs } := by
  refine ⟨⟨_, H.stkChg hs hc hat, ?_⟩, hc.mono (fun k hk => hO k (.inr (.inr (.inr (.inr (.inr hk))))))⟩
  rintro k (rfl | hk | hk | hk | hk | rfl | hk)
  · exact .inl (hO _ (.inl rfl))
  · exact .inl (hO _ (.inr (.inl hk)))
  · exact .inl (hO _ (.inr (.inr (.inl hk))))
  · exact .inl (hO _ (.inr (.inr (.inr (.inl hk)))))
  · exact .inl (hO _ (.inr (.inr (.inr (.inr (.inl hk))))))
  · exact .inl (hO _ (.inr (.inr (.inr (.inr (.inr (.inl rfl)))))))
  · rcases hat k hk with h1 | h1
    · exact .inl (hO _ (.inr (.inr (.inr (.inr (.inr (.inr h1)))))))
    · exact .inr h1

theorem EngG.goes_frs {O S : Nat → Prop} (H : EngG w B s h) (hO : ∀ k, engF B h k → O k) {ad : Option Addr} {c : Nat} {fs : List Frm} (hs : Frs w' B.fr ad c fs) (hc : Chg S w w') (hS : ∀ k, S k → frsF B.fr h.fad h.fs k)
    (hat : ∀ k, inB ad k → inB h.fad k ∨ w.heap.size ≤ k) (hla : ∀ f ∈ fs, ∀ k, inB f.la k → (∃ f' ∈ h.fs, inB f'.la k) ∨ w.heap.size ≤ k) :
    Goes B w O w' { s with fs := fs.map Frm.log } := by
  refine ⟨⟨_, H.frsChg hs hc hS hla, ?_⟩, hc.mono (fun k hk => hO k (.inr (.inr (.inr (.inr (.inl (hS k hk)))))))⟩
  rintro k (rfl | hk | hk | hk | (rfl | hk | ⟨f, hf, hk⟩) | hk)
  · exact .inl (hO _ (.inl rfl))
  · exact .inl (hO _ (.inr (.inl hk)))
  · exact .inl (hO _ (.inr (.inr (.inl hk))))
  · exact .inl (hO _ (.inr (.inr (.inr (.inl hk)))))
  · exact .inl (hO _ (.inr (.inr (.inr (.inr (.inl (.inl rfl)))))))
  · rcases hat k hk with h1 | h1
    · exact .inl (hO _ (.inr (.inr (.inr (.inr (.inl (.inr (.inl h1))))))))
    · exact .inr h1
  · rcases hla f hf k hk with h1 | h1
    · exact .inl (hO _ (.inr (.inr (.inr (.inr (.inl (.inr (.inr h1))))))))
    · exact .inr h1
  · exact .inl (hO _ (.inr (.inr (.inr (.inr (.inr hk))))))

theorem EngG.goes_set {O : Nat → Prop} (H : EngG w B s h) (hO : ∀ k, engF B h k → O k) (s' : St) (i : Nat) (u : Value) (hs : s'.ds = s.ds ∧ s'.ws = s.ws ∧ s'.fs = s.fs ∧ s'.xs = s.xs) (hcells : (engCells B s h).setIfInBounds i u = engCells B s' h) :
    Goes B w O (w.setCell ⟨B.g, i, none⟩ u) s' :=
  ⟨⟨h, H.setG s' i u hs hcells, fun k hk => .inl (hO k hk)⟩, Chg.set O w B.g i (hO _ (.inl rfl)) u⟩
theorem EngG.goes_none {O : Nat → Prop} (H : EngG w B s h) (hO : ∀ k, engF B h k → O k) (hc : Chg none_ w w') : Goes B w O w' s :=
  ⟨⟨h, H.keep hc, fun k hk => .inl (hO k hk)⟩, hc.weak O⟩
theorem Eng.keep {O : Nat → Prop} (H : Eng w B s O) (hc : Chg none_ w w') : Eng w' B s O := by
  obtain ⟨h, hg, ho⟩ := H
  exact ⟨h, hg.keep hc, ho⟩
theorem Eng.mono {O O' : Nat → Prop} (H : Eng w B s O) (hO : ∀ k, O k → O' k) : Eng w B s O' := by
  obtain ⟨h, hg, ho⟩ := H
  exact ⟨h, hg, fun k hk => hO k (ho k hk)⟩
theorem Goes.same {O : Nat → Prop} (H : Eng w B s O) (hc : Chg none_ w w') : Goes B w O w' s := by
  obtain ⟨h, hg, ho⟩ := H
  exact hg.goes_none ho hc
/-- The second part begins in a world that is the first's end with new blocks. -/
theorem Goes.then {O : Nat → Prop} {w1 w2 : World} {s1 s2 : St} (h : Goes B w O w1 s1) (k : Goes B w1 (fun k => O k ∨ w.heap.size ≤ k) w2 s2) : Goes B w O w2 s2 := h.trans k
end
end Go.Proofs.YtgomjcnefadenaaGreatDoor
