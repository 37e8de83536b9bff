/- Texts and tokens together. -/
import Derived.Test.YtllcklddfcclfaaCloneS
import Derived.Test.YtllcklddfcclfaaTokE
