/- Values of a struct type that holds slices of itself. No condition. -/
import Derived.Test.YtehmpjjbmldcnaaKZf
namespace Go.KB
variable {α β γ:Type}
/- a slice that holds nothing -/
def Rep.vF (α:Type):Rep (List α) where
  sz:=1
  agg:=false
  rel:=fun _ cs xs=>(∃ base,cs=[.slice base 0 0])∧xs=[]
  zero:=[]
  zc:=[.slice none 0 0]
  one:=fun _=>rfl
  len:=fun ⟨⟨_,e⟩,_⟩=>by rw [e];rfl
  flat:=fun ⟨⟨_,e⟩,_⟩ c hc=>by rw [e] at hc;simp at hc;rw [hc];rfl
  mono:=fun _ e=>e
  uy:=fun _=>⟨⟨none,rfl⟩,rfl⟩
def Rep.le (r s:Rep α):Prop:=∀ h cs x,r.rel h cs x→s.rel h cs x
theorem sV.le {r s:Rep α} (hl:r.le s) {h:H} {b off:Nat} {x:α}:sV r h b off x→sV s h b off x:=fun ⟨cs,a,c⟩=>⟨cs,hl h cs x a,c⟩
theorem Rep.J5 {r s:Rep α} (hl:r.le s) (hz:r.sz=s.sz) (hf:s.fr=false):(Rep.slice r).le (Rep.slice s):=by
  rintro h cs xs ⟨v,e,k⟩
  refine ⟨v,e,?_⟩
  rcases k with k | ⟨b,off,cap,e1,e2,k⟩
  · exact .inl k
  · exact .inr ⟨b,off,cap,e1,e2,fun i x hx=>by rw [← hz];exact (k.1 i x hx).le hl,fun e=>by rw [hf] at e;cases e⟩
theorem Rep.SV (r:Rep α):(Rep.vF α).le (Rep.slice r):=by
  rintro h cs xs ⟨⟨base,e⟩,rfl⟩
  exact ⟨_,e,.inl ⟨⟨base,rfl⟩,rfl⟩⟩
/- a chain of such descriptions, and what it comes to -/
structure Chain (R:Nat→Rep α) (ω:Rep α):Prop where
  up:∀ n,(R n).le (R (n+1))
  lim:∀ h cs x,ω.rel h cs x↔∃ n,(R n).rel h cs x
theorem Chain.mono {R:Nat→Rep α} {ω:Rep α} (c:Chain R ω) {m:Nat}:∀ {n:Nat},m≤n→(R m).le (R n):=by
  intro n hn
  induction n with
  | zero=>rw [Nat.le_zero.1 hn];exact fun _ _ _ k=>k
  | succ n ih =>
    by_cases e:m=n+1
    · rw [e];exact fun _ _ _ k=>k
    · exact fun h cs x k=>c.up n h cs x (ih (by omega) h cs x k)
theorem Chain.const (r:Rep α):Chain (fun _=>r) r:=⟨fun _ _ _ _ k=>k,fun _ _ _=>⟨fun k=>⟨0,k⟩,fun ⟨_,k⟩=>k⟩⟩
theorem Chain.prod {R:Nat→Rep α} {ω:Rep α} {S:Nat→Rep β} {σ:Rep β} (c:Chain R ω) (d:Chain S σ):Chain (fun n=>(R n).prod (S n)) (ω.prod σ):=by
  refine ⟨?_,?_⟩
  · rintro n h cs x ⟨a,b,e,k1,k2⟩
    exact ⟨a,b,e,c.up n _ _ _ k1,d.up n _ _ _ k2⟩
  · intro h cs x
    constructor
    · rintro ⟨a,b,e,k1,k2⟩
      obtain ⟨n,k1⟩:=(c.lim _ _ _).1 k1
      obtain ⟨m,k2⟩:=(d.lim _ _ _).1 k2
      exact ⟨max n m,a,b,e,c.mono (Nat.le_max_left _ _) _ _ _ k1,d.mono (Nat.le_max_right _ _) _ _ _ k2⟩
    · rintro ⟨n,a,b,e,k1,k2⟩
      exact ⟨a,b,e,(c.lim _ _ _).2 ⟨n,k1⟩,(d.lim _ _ _).2 ⟨n,k2⟩⟩
theorem Chain.vC {R:Nat→Rep α} {ω:Rep α} (c:Chain R ω) (f:β→α) (g:α→β) (fg:∀ x,f (g x)=x):Chain (fun n=>(R n).vC f g fg) (ω.vC f g fg):=⟨fun n h cs x k=>c.up n h cs (f x) k,fun h cs x=>c.lim h cs (f x)⟩
theorem Chain.slice {R:Nat→Rep α} {ω:Rep α} (c:Chain R ω) (hz:∀ n,(R n).sz=ω.sz) (hf:∀ n,(R n).fr=false) (hf2:ω.fr=false):Chain (fun n=>Rep.slice (R n)) (Rep.slice ω):=by
  refine ⟨fun n=>Rep.J5 (c.up n) (by rw [hz,hz]) (hf (n+1)),fun h cs xs=>⟨?_,?_⟩⟩
  · rintro ⟨v,e,k⟩
    rcases k with k | ⟨b,off,cap,e1,e2,k⟩
    · exact ⟨0,v,e,.inl k⟩
    · have key:∀ m,m≤xs.length→∃ n,∀ i x,i<m→xs[i]? = some x→sV (R n) h b (off+i * ω.sz) x:=by
        intro m
        induction m with
        | zero=>intro _;exact ⟨0,fun i x hi=>absurd hi (Nat.not_lt_zero _)⟩
        | succ m ih =>
          intro hm
          obtain ⟨n,hn⟩:=ih (by omega)
          obtain ⟨ds,hd,hc⟩:=k.1 m xs[m] (by rw [List.getElem?_eq_getElem])
          obtain ⟨n2,hd⟩:=(c.lim _ _ _).1 hd
          refine ⟨max n n2,fun i x hi hx=>?_⟩
          by_cases e:i=m
          · subst e
            have:x=xs[i]:=by rw [List.getElem?_eq_getElem (by omega)] at hx;exact (Option.some.inj hx).symm
            subst this
            exact ⟨ds,c.mono (Nat.le_max_right _ _) _ _ _ hd,hc⟩
          · exact (hn i x (by omega) hx).le (c.mono (Nat.le_max_left _ _))
      obtain ⟨n,hn⟩:=key xs.length (Nat.le_refl _)
      exact ⟨n,v,e,.inr ⟨b,off,cap,e1,e2,fun i x hx=>by rw [hz];exact hn i x (List.getElem?_eq_some_iff.1 hx).1 hx,fun e=>by rw [hf n] at e;cases e⟩⟩
  · rintro ⟨n,k⟩
    exact Rep.J5 (fun h cs x k=>(c.lim h cs x).2 ⟨n,k⟩) (hz n) hf2 h cs xs k
theorem Rep.le_refl (r:Rep α):r.le r:=fun _ _ _ k=>k
theorem Rep.wB {r r':Rep α} {s s':Rep β} (h:r.le r') (h':s.le s'):(r.prod s).le (r'.prod s'):=fun _ _ _ ⟨a,b,e,k1,k2⟩=>⟨a,b,e,h _ _ _ k1,h' _ _ _ k2⟩
theorem Rep.Uz {r r':Rep α} {f:β→α} {g:α→β} {fg:∀ x,f (g x)=x} (h:r.le r'):(r.vC f g fg).le (r'.vC f g fg):=fun hh cs x k=>h hh cs (f x) k
/- a description of such a struct, from one of its slices -/
structure LY (F:Rep (List α)→Rep α):Prop where
  sz:∀ r:Rep α,(F (Rep.slice r)).sz=(F (Rep.vF α)).sz
  agg:∀ r:Rep α,(F (Rep.slice r)).agg=(F (Rep.vF α)).agg
  zero:∀ r:Rep α,(F (Rep.slice r)).zero=(F (Rep.vF α)).zero
  zc:∀ r:Rep α,(F (Rep.slice r)).zc=(F (Rep.vF α)).zc
  le:∀ q q':Rep (List α),q.le q'→(F q).le (F q')
  con:∀ (R:Nat→Rep (List α)) (ω:Rep (List α)),Chain R ω→Chain (fun n=>F (R n)) (F ω)
  fr:∀ q:Rep (List α),(F q).fr=false
def Rep.it (F:Rep (List α)→Rep α):Nat→Rep α
  | 0=>F (Rep.vF α)
  | n+1=>F (Rep.slice (Rep.it F n))
section
variable {F:Rep (List α)→Rep α} (ok:LY F)
include ok
theorem Ri:∀ n,(Rep.it F n).sz=(F (Rep.vF α)).sz
  | 0=>rfl
  | _+1=>ok.sz _
theorem it_agg:∀ n,(Rep.it F n).agg=(F (Rep.vF α)).agg
  | 0=>rfl
  | _+1=>ok.agg _
theorem XR:∀ n,(Rep.it F n).fr=false
  | 0=>ok.fr _
  | _+1=>ok.fr _
theorem UA:∀ n,(Rep.it F n).le (Rep.it F (n+1))
  | 0=>ok.le _ _ (Rep.SV _)
  | n+1=>ok.le _ _ (Rep.J5 (UA n) (by rw [Ri ok,Ri ok]) (XR ok _))
end
def Rep.fix (F:Rep (List α)→Rep α) (ok:LY F):Rep α where
  sz:=(F (Rep.vF α)).sz
  agg:=(F (Rep.vF α)).agg
  rel:=fun h cs x=>∃ n,(Rep.it F n).rel h cs x
  zero:=(F (Rep.vF α)).zero
  zc:=(F (Rep.vF α)).zc
  one:=(F (Rep.vF α)).one
  len:=fun ⟨n,k⟩=>by rw [← Ri ok n];exact (Rep.it F n).len k
  flat:=fun ⟨n,k⟩=>(Rep.it F n).flat k
  mono:=fun hl ⟨n,k⟩=>⟨n,(Rep.it F n).mono hl k⟩
  uy:=fun h=>⟨0,(F (Rep.vF α)).uy h⟩
section
variable {F:Rep (List α)→Rep α} (ok:LY F)
theorem ND {h:H} {cs:List Value} {x:α}:(Rep.fix F ok).rel h cs x↔(F (Rep.slice (Rep.fix F ok))).rel h cs x:=by
  have hc:Chain (Rep.it F) (Rep.fix F ok):=⟨UA ok,fun _ _ _=>Iff.rfl⟩
  have h2:=ok.con _ _ (hc.slice (fun n=>Ri ok n) (XR ok) rfl)
  constructor
  · rintro ⟨n,k⟩
    exact (h2.lim h cs x).2 ⟨n,by exact UA ok n h cs x k⟩
  · intro k
    obtain ⟨n,k⟩:=(h2.lim h cs x).1 k
    exact ⟨n+1,k⟩
theorem Lens.fix {s:Rep β} {off:Nat} {get:α→β} {set:α→β→α} (l:Lens (F (Rep.slice (Rep.fix F ok))) s off get set):Lens (Rep.fix F ok) s off get set:=by
  intro h cs x k
  obtain ⟨p,c,q,e,hp,hs,hk⟩:=l h cs x ((ND ok).1 k)
  exact ⟨p,c,q,e,hp,hs,fun h' c' y hl hy=>(ND ok).2 (hk h' c' y hl hy)⟩
end
end Go.KB
