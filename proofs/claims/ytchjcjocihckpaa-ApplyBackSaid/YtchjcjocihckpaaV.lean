/- What is to be shown of the functions, gathered. -/
import Derived.Test.YtchjcjocihckpaaGa
import Derived.Test.YtchjcjocihckpaaW0
import Derived.Test.YtchjcjocihckpaaW1
import Derived.Test.YtchjcjocihckpaaW2
import Derived.Test.YtchjcjocihckpaaW3
import Derived.Test.YtchjcjocihckpaaW4
import Derived.Test.YtchjcjocihckpaaW5
import Derived.Test.YtchjcjocihckpaaW6
import Derived.Test.YtchjcjocihckpaaW7
import Derived.Test.YtchjcjocihckpaaW8
import Derived.Test.YtchjcjocihckpaaW9
