import Derived.Orders
theorem j2r.{u_1,u_2}:∀{α:Type u_1} {β:Type u_2} (a:α) (f:α→Option β),(some a).bind f=f a:=@Option.bind_some
theorem j2s:∀(a b:Bool),((a&&b)=true)=(a=true∧b=true):=@Bool.and_eq_true
theorem j2t:∀{n m:Nat},n.beq m=true→n=m:=@Nat.eq_of_beq_eq_true
theorem j2u.{u_1}:∀{α:Type u_1} {xs:Array α} {i:Nat} {d:α},xs.getD i d=xs[i]?.getD d:=@Array.getD_eq_getD_getElem?
theorem j2v.{u}:∀{α:Type u} (val val_1:α),(some val=some val_1)=(val=val_1):=@Option.some.injEq
theorem j2w.{u_1,u_2}:∀{α:Type u_1} {b:α} {α_1:Type u_2} {x:Option α_1} {f:α_1→Option α},x.bind f=some b↔ ∃a,x=some a∧f a=some b:=@Option.bind_eq_some_iff
theorem j2x.{u_1}:∀{α:Type u_1} {l:List α} {i:Nat} (h:i<l.length),l[i]? =some l[i]:=@List.getElem?_eq_getElem
theorem j2y.{u}:∀{α:Type u} {as bs:List α},(as++bs).length=as.length+bs.length:=@List.length_append
theorem j2z.{u_1}:∀{α:Type u_1} {l:List α} {i:Nat} {a:α},l.getD i a=l[i]?.getD a:=@List.getD_eq_getElem?_getD
theorem k2a.{u_1}:∀{α:Type u_1} {i:Nat} {a:α} {l:List α},l[i]? =some a↔ ∃h,l[i]=a:=@List.getElem?_eq_some_iff
theorem k2b.{u_1}:∀{α:Type u_1} {b:α} {l:List α} {a:α},a∈b::l↔a=b∨a∈l:=@List.mem_cons
theorem k2c:∀{x y:Bool},(x || y)=false↔x=false∧y=false:=@Bool.or_eq_false_iff
theorem k2d:∀{n m:Nat},n.ble m=true→n≤m:=@Nat.le_of_ble_eq_true
theorem k2e:(!true)=false:=@Bool.not_true
theorem k2f.{u_1}:∀{α:Type u_1} {p:α→Bool} {l:List α},l.all p=true↔ ∀(x:α),x∈l→p x=true:=@List.all_eq_true
theorem k2g.{u_1}:∀{α:Type u_1} {i:Nat} {l:List α},(List.take i l).length=min i l.length:=@List.length_take
theorem k2h:∀(n:Nat),n≤n:=@Nat.le_refl
theorem k2i.{u}:∀{α:Type u} {a:α} {as:List α},(a::as).length=as.length+1:=@List.length_cons
theorem k2j.{u_1}:∀{α:Type u_1} {i:Nat} {b:α} {xs:Array α},xs[i]? =some b↔ ∃h,xs[i]=b:=@Array.getElem?_eq_some_iff
theorem k2k:∀{n m:Nat},n≤m→n.ble m=true:=@Nat.ble_eq_true_of_le
theorem k2l.{u,v}:∀{α:Type u} {β:Type v} {f:α→β} {a:α} {l:List α},List.map f (a::l)=f a::List.map f l:=@List.map_cons
theorem k2m:∀(b:Bool),(false || b)=b:=@Bool.false_or
theorem k2n.{u,v}:∀{α:Type u} {β:Type v} {x:α} {xs:List α} {f:α→List β},List.flatMap f (x::xs)=f x++List.flatMap f xs:=@List.flatMap_cons
theorem k2o:∀(n:Nat),0≤n:=@Nat.zero_le
theorem k2p:∀{n m:Nat},n.beq m=false→¬n=m:=@Nat.ne_of_beq_eq_false
theorem k2q.{u_1}:∀{α:Type u_1} {l:List α},l.length=0→l= []:=@List.eq_nil_of_length_eq_zero
theorem k2r.{u_1}:∀{α:Type u_1} {xs:Array α} {i:Nat} (h:i<xs.size),xs[i]? =some xs[i]:=@Array.getElem?_eq_getElem
theorem k2s.{u_1,u_2}:∀{α:Type u_1} {β:Type u_2} {b:β} {f:α→β} {l:List α},b∈List.map f l↔ ∃a,a∈l∧f a=b:=@List.mem_map
theorem k2t.{u_1}:∀{α:Type u_1} {i:Nat} {l:List α},(List.drop i l).length=l.length - i:=@List.length_drop
theorem k2u.{u}:∀{α:Type u} {a:α}, [a].length=1:=@List.length_singleton
theorem k2v.{u_1,u_2}:∀{α:Type u_1} {β:Type u_2} {as:List α} (f:α→β),(List.map f as).length=as.length:=@List.length_map
theorem k2w:(!false)=true:=@Bool.not_false
theorem k2x:∀{n m k:Nat},n≤m→m≤k→n≤k:=@Nat.le_trans
theorem k2y.{u}:∀{α:Type u} (as:List α),as++ []=as:=@List.append_nil
theorem k2z.{u_1}:∀{α:Type u_1} {xs:Array α},xs.toList.length=xs.size:=@Array.length_toList
theorem l2a:∀(b:Bool),(true || b)=true:=@Bool.true_or
theorem l2b:∀(n:Nat),0+n=n:=@Nat.zero_add
theorem l2c.{u_1}:∀{α:Type u_1} (y:α) {a:α} {l:List α},a∈l→a∈y::l:=@List.mem_cons_of_mem
theorem l2d.{u_1,u_2}:∀{α:Type u_1} {β:Type u_2} {f:α→β} {l:List α} {i:Nat},(List.map f l)[i]? =Option.map f l[i]?:=@List.getElem?_map
theorem l2e:∀(b:Bool),(true&&b)=b:=@Bool.true_and
theorem l2f:∀(b:Bool),(b || false)=b:=@Bool.or_false
theorem l2g.{u_1}:∀{α:Type u_1} {a:α},¬a∈ []:=@List.not_mem_nil
theorem l2h.{u_1}:∀{α:Type u_1} {xs:Array α} {i j:Nat} {a:α},(xs.setIfInBounds i a)[j]? =if i=j then if i<xs.size then some a else none else xs[j]?:=@Array.getElem?_setIfInBounds
theorem l2i.{u_1,u_2}:∀{α:Type u_1} {β:Type u_2} (a:α) (f:α→β),Option.map f (some a)=some (f a):=@Option.map_some
theorem l2j.{u}:∀{α:Type u} (as:List α), []++as=as:=@List.nil_append
theorem l2k.{u_1,u_2}:∀{α:Type u_1} {b:α} {α_1:Type u_2} {x:Option α_1} {f:α_1→α},Option.map f x=some b↔ ∃a,x=some a∧f a=b:=@Option.map_eq_some_iff
theorem l2l:∀(b:Bool),((!b)=true)=(b=false):=@Bool.not_eq_true'
theorem l2m.{u}:∀{α:Type u} (as bs cs:List α),as++bs++cs=as++(bs++cs):=@List.append_assoc
theorem l2n.{u}:∀{α:Type u} {xs:Array α} {i:Nat},xs.toList[i]? =xs[i]?:=@Array.getElem?_toList
theorem l2o:∀{n m:Nat} (k:Nat),n≤m→n*k≤m*k:=@Nat.mul_le_mul_right
theorem l2p.{u_1}:∀{α:Type u_1} {l:List α} {n:Nat} (h:n<l.length),l[n]∈l:=@List.getElem_mem
theorem l2q:∀(b:Bool),(b || true)=true:=@Bool.or_true
theorem l2r.{u_1}:∀{α:Type u_1} {a b:α},a∈ [b]↔a=b:=@List.mem_singleton
theorem l2s:∀{n m k:Nat},n<m→m≤k→n<k:=@Nat.lt_of_lt_of_le
theorem l2t:∀{s n step:Nat},List.range' s (n+1) step=s::List.range' (s+step) n step:=@List.range'_succ
theorem l2u.{u_1}:∀{α:Type u_1} {i:Nat} {as bs:List α} (h:i<as.length) {h' :i< (as++bs).length},(as++bs)[i]=as[i]:=@List.getElem_append_left
theorem l2v.{u_1}:∀{α:Type u_1} {a:α} {s t:List α},a∈s++t↔a∈s∨a∈t:=@List.mem_append
theorem l2w.{u_1,u_2}:∀{α:Type u_1} {β:Type u_2} (f:α→β),Option.map f none=none:=@Option.map_none
theorem l2x.{u_1}:∀{α:Type u_1} {a b:α},(some a).getD b=a:=@Option.getD_some
theorem l2y.{u_1}:∀{α:Type u_1} {l:List α} {i j:Nat},(List.take i l)[j]? =if j<i then l[j]? else none:=@List.getElem?_take
theorem l2z:∀(b:Bool),(false&&b)=false:=@Bool.false_and
theorem m2a.{u_1}:∀{α:Type u_1} {l₁ l₂:List α} {i:Nat},l₁.length≤i→(l₁++l₂)[i]? =l₂[i - l₁.length]?:=@List.getElem?_append_right
theorem m2b.{u_1}:∀{α:Type u_1} {xs ys:Array α} {i:Nat},i<xs.size→(xs++ys)[i]? =xs[i]?:=@Array.getElem?_append_left
theorem m2c.{u_1}:∀{α:Type u_1} {a:α} {l:List α},(a::l)[0]? =some a:=@List.getElem?_cons_zero
theorem m2d.{u_1}:∀{α:Type u_1} {i:Nat} {l:List α} (h:i<l.length),List.drop i l=l[i]::List.drop (i+1) l:=@List.drop_eq_getElem_cons
theorem m2e:∀{m n:Nat},m∈List.range n↔m<n:=@List.mem_range
theorem m2f.{u,v}:∀{α:Type u} {β:Type v} {f:α→β},List.map f []= []:=@List.map_nil
theorem m2g:∀(a b:Bool),((a || b)=true)=(a=true∨b=true):=@Bool.or_eq_true
theorem m2h:∀(n m k:Nat),(n+m)*k=n*k+m*k:=@Nat.add_mul
theorem m2i.{u,v}:∀{α:Type u} {β:Type v} {f:α→List β},List.flatMap f []= []:=@List.flatMap_nil
theorem m2j:∀(a:Int) {b:Int},0≤b→a.fdiv b=a / b:=@Int.fdiv_eq_ediv_of_nonneg
theorem m2k.{u}:∀{α:Type u} {as:List α} {i:Nat},as.length≤i→List.drop i as= []:=@List.drop_eq_nil_of_le
theorem m2l:∀{x y:Bool},(x&&y)=false↔x=false∨y=false:=@Bool.and_eq_false_iff
theorem m2m:∀(b:Bool),(b&&true)=b:=@Bool.and_true
theorem m2n:∀(a:Nat),a.beq a=true:=@Nat.beq_refl
theorem m2o:(false=true)=False:=@Bool.false_eq_true
theorem m2p:∀(n:Nat),n+0=n:=@Nat.add_zero
theorem m2q:∀(n m:Nat),n<m∨n≥m:=@Nat.lt_or_ge
theorem m2r:∀(n m:Nat),n≤m+n:=@Nat.le_add_left
theorem m2s:∀{a b:Nat},a<b→a%b=a:=@Nat.mod_eq_of_lt
theorem m2t:∀(n:Nat),n - n=0:=@Nat.sub_self
